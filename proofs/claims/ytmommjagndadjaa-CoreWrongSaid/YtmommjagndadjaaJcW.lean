/-
  The law on what can be wrong with flat programs: plain; how the example lies in memory when some of it is turned.
  No condition.
  The law on what can be wrong with flat programs: its walk, some of its cases.
  No condition.
  The law on what can be wrong with flat programs: its walk, some of its cases.
  No condition.
  The law on what can be wrong with flat programs: its walk, some of its cases.
  No condition.
-/
import Derived.Test.YtmommjagndadjaaJcN
import Derived.Test.YtmommjagndadjaaJcA
namespace Go.Proofs.Ytmommjagndadjaa
open Go.RowKit Go.Maps
set_option linter.unusedSimpArgs false
set_option linter.unusedVariables false
set_option maxRecDepth 100000

/-! ### Plain -/
abbrev nZ : ByteArray := ⟨#[122]⟩
abbrev nQ : ByteArray := ⟨#[113]⟩
abbrev sm0 : EQ := defE nY smEC
abbrev sm1 : EQ := memE nM 0 nY nR
abbrev wrE : CE := .mk 9 0 0 1 nR [exV nX]
abbrev wrG : CE := .mk 10 0 0 0 nR [wrE, .mk 1 0 2 5 eB []]
abbrev wrC (l : List EQ) : CP := { smallC with eqs := l }
abbrev wrO (v : VR) : CP := { smallC with outs := [v] }
abbrev wrL (l : List VR) : CP := { smallC with locals := l }
def wrongC : Nat → CP
  | 0 => smallC
  | 1 => wrL [⟨nM, 2, []⟩, ⟨nX, 2, []⟩]
  | 2 => wrC [sm0, sm1, sm0]
  | 3 => wrL [⟨nM, 10, []⟩]
  | 4 => wrC [defE nX smEC, sm1]
  | 5 => wrC [sm1]
  | 6 => wrC [⟨4, nY, smEC, 0, eB, eB, 0, 0⟩, sm1]
  | 7 => wrC [sm0, memE nM 200 nY nR]
  | 8 => wrC [defE nY (.mk 4 3 0 0 eB [exV nM]), sm1]
  | 9 => wrC [defE nY (.mk 4 14 0 0 eB [exV nM, exV nX]), sm1]
  | 10 => wrC [sm0, memE nM 0 nY nX]
  | 11 => wrC [sm0, memE nM 0 nR nR]
  | 12 => wrO ⟨nY, 2, [(nR, true)]⟩
  | 13 => wrL [⟨nM, 2, [(nR, true)]⟩]
  | 14 => wrC [defE nY wrE, sm1]
  | 15 => wrC [defE nY (exV nY), sm1]
  | 16 => { smallC with locals := [⟨nM, 2, []⟩, ⟨nZ, 2, []⟩], eqs := [defE nY (exV nZ), sm1, defE nZ (exV nY)] }
  | 17 => wrC [sm0, memE nM 0 nQ nR]
  | 18 => wrC [sm0, ⟨3, nM, exZ, 0, eB, eB, 0, 0⟩]
  | 19 => wrC [defE nY wrG, sm1]
  | 20 => wrC [sm0, ⟨3, nM, exZ, 0, eB, eB, 2, 0⟩]
  | _ => wrL [⟨nM, 2, [(nQ, true)]⟩]
def wantC : Nat → Int
  | 0 => 0 | 1 => 20 | 2 => 20 | 3 => 22 | 4 => 21 | 5 => 24 | 6 => 40 | 7 => 40 | 8 => 40 | 9 => 22 | 10 => 22 | 11 => 22 | 12 => 27 | 13 => 27 | 14 => 27 | 15 => 29 | 16 => 29 | 17 => 21 | 18 => 40 | 19 => 0 | 20 => 22 | _ => 21
theorem chk_wrongC : ∀ k : Fin 22, chkC (wrongC k.val) = wantC k.val := by decide +kernel
theorem ok_wrongB : ∀ k : Fin 22, okCb (wrongC k.val) = true := by decide +kernel
theorem sm_wrongB : ∀ k : Fin 22, smCb (wrongC k.val) = true := by decide +kernel
/-- What is asked of the checker at case k, and what it answers. -/
def AskC (k : Nat) (x : Int) : Prop := ∀ (w' : World) (y : S4), CPIn w' (wrongC k) y → Calls Try.prog 20 #[.agg #[y.iv, y.ov, y.lv, y.ev]] w' fun e w1 => e = .returned (.int .i64 x) ∧ Hid (Ext w' w1)
theorem ask_allC (k : Fin 22) : AskC k.val (wantC k.val) := fun w' y h => by
  have := ccheck_any (wrongC k.val) y w' h (okC_b (ok_wrongB k)) (smC_b (sm_wrongB k))
  rw [chk_wrongC k] at this
  exact this
abbrev wantA : Array Value := #[.int .i64 0, .int .i64 20, .int .i64 20, .int .i64 22, .int .i64 21, .int .i64 24, .int .i64 40, .int .i64 40, .int .i64 40, .int .i64 22, .int .i64 22, .int .i64 22, .int .i64 27, .int .i64 27, .int .i64 27, .int .i64 29, .int .i64 29, .int .i64 21, .int .i64 40, .int .i64 0, .int .i64 22, .int .i64 21]
theorem wantA_at : ∀ k : Fin 22, wantA[k.val]? = some (.int .i64 (wantC k.val)) := fun ⟨k, hk⟩ => by
  match k, hk with
  | 0, _ => rfl | 1, _ => rfl | 2, _ => rfl | 3, _ => rfl | 4, _ => rfl | 5, _ => rfl | 6, _ => rfl | 7, _ => rfl | 8, _ => rfl | 9, _ => rfl | 10, _ => rfl
  | 11, _ => rfl | 12, _ => rfl | 13, _ => rfl | 14, _ => rfl | 15, _ => rfl | 16, _ => rfl | 17, _ => rfl | 18, _ => rfl | 19, _ => rfl | 20, _ => rfl | 21, _ => rfl
  | k + 22, h => exact absurd h (by omega)
theorem want_at (w : World) (t : TypeId) (T : Nat) (h : w.heap[T]? = some (.cells wantA t (0, 0))) (k : Fin 22) : w.cell? ⟨T, k.val, none⟩ = some (.int .i64 (wantC k.val)) := by
  rw [cell_of_row w T k.val _ t (0, 0) h]
  exact wantA_at k
/-! ### In memory -/
abbrev smOs : Array Value := #[.string nY, .int .i64 2, NLc]
abbrev smLs : Array Value := #[.string nM, .int .i64 2, NLc]
structure LikeD (g : Nat) (os ls qs : Array Value) (w : World) : Prop where
  ins : w.heap[g]? = some (.cells #[.string nX, .int .i64 2, NLc, .string nR, .int .i64 1, NLc] 30 (0, 0))
  outs : w.heap[g + 1]? = some (.cells os 30 (0, 0))
  locals : w.heap[g + 2]? = some (.cells ls 30 (0, 0))
  kids : w.heap[g + 5]? = some (.cells #[.int .i64 2, .int .i64 0, .int .i64 0, .int .i64 0, .string nM, NLc, .int .i64 2, .int .i64 0, .int .i64 0, .int .i64 0, .string nX, NLc] 33 (0, 0))
  eqs : w.heap[g + 6]? = some (.cells qs 35 (0, 0))
section
variable {g : Nat} {os ls qs : Array Value} {w w' : World}
theorem LikeC.d (h : LikeC g qs w) : LikeD g smOs smLs qs w := ⟨h.ins, h.outs, h.locals, h.kids, h.eqs⟩
theorem LikeD.ext (h : LikeD g os ls qs w) (hx : Ext w w') : LikeD g os ls qs w' := ⟨ext_block hx h.ins, ext_block hx h.outs, ext_block hx h.locals, ext_block hx h.kids, ext_block hx h.eqs⟩
theorem LikeD.kb {S : List Nat} (h : LikeD g os ls qs w) (hk : Kb S w w') (hS : ∀ k ∈ S, g + 6 < k) : LikeD g os ls qs w' :=
  ⟨hk.heap (fun hm => by have := hS _ hm; omega) h.ins, hk.heap (fun hm => by have := hS _ hm; omega) h.outs, hk.heap (fun hm => by have := hS _ hm; omega) h.locals, hk.heap (fun hm => by have := hS _ hm; omega) h.kids, hk.heap (fun hm => by have := hS _ hm; omega) h.eqs⟩
theorem LikeD.oset (h : LikeD g os ls qs w) (j : Nat) (u : Value) : LikeD g (os.setIfInBounds j u) ls qs (w.setCell ⟨g + 1, j, none⟩ u) :=
  ⟨(heap_setCell_other _ _ _ _ (by simp)).trans h.ins, heap_setCell_same _ _ _ _ _ _ h.outs, (heap_setCell_other _ _ _ _ (by simp)).trans h.locals, (heap_setCell_other _ _ _ _ (by simp)).trans h.kids, (heap_setCell_other _ _ _ _ (by simp)).trans h.eqs⟩
theorem LikeD.lset (h : LikeD g os ls qs w) (j : Nat) (u : Value) : LikeD g os (ls.setIfInBounds j u) qs (w.setCell ⟨g + 2, j, none⟩ u) :=
  ⟨(heap_setCell_other _ _ _ _ (by simp)).trans h.ins, (heap_setCell_other _ _ _ _ (by simp)).trans h.outs, heap_setCell_same _ _ _ _ _ _ h.locals, (heap_setCell_other _ _ _ _ (by simp)).trans h.kids, (heap_setCell_other _ _ _ _ (by simp)).trans h.eqs⟩
theorem LikeD.qset (h : LikeD g os ls qs w) (j : Nat) (u : Value) : LikeD g os ls (qs.setIfInBounds j u) (w.setCell ⟨g + 6, j, none⟩ u) :=
  ⟨(heap_setCell_other _ _ _ _ (by simp)).trans h.ins, (heap_setCell_other _ _ _ _ (by simp)).trans h.outs, (heap_setCell_other _ _ _ _ (by simp)).trans h.locals, (heap_setCell_other _ _ _ _ (by simp)).trans h.kids, heap_setCell_same _ _ _ _ _ _ h.eqs⟩
theorem LikeD.cast {os' ls' qs' : Array Value} (h : LikeD g os ls qs w) (e1 : os = os') (e2 : ls = ls') (e3 : qs = qs') : LikeD g os' ls' qs' w := by subst e1 e2 e3; exact h
theorem LikeD.kin (h : LikeD g os ls qs w) (s : Int) : KIn w (.mk 4 s 0 0 eB [exV nM, exV nX]) (.slice (some ⟨g + 5, 0, none⟩) 2 2) := by
  refine KIn.of (kvs := [NLc, NLc]) ?_ (KsIn.consc (KIn.none _ _ _ _ _ _) (KsIn.consc (KIn.none _ _ _ _ _ _) (KsIn.nilc _)))
  exact SlC.blk h.kids 2 2 _ (by decide) (by decide) rfl
theorem LikeD.kin1 (h : LikeD g os ls qs w) : KIn w (.mk 4 3 0 0 eB [exV nM]) (.slice (some ⟨g + 5, 0, none⟩) 1 2) := by
  refine KIn.of (kvs := [NLc]) ?_ (KsIn.consc (KIn.none _ _ _ _ _ _) (KsIn.nilc _))
  refine ⟨_, 2, rfl, by decide, by decide, fun j u hu => ⟨g + 5, 0, rfl, ?_⟩⟩
  rw [Nat.zero_add, cell_of_row w (g + 5) j _ _ (0, 0) h.kids]
  have hj : j < 6 := (List.getElem?_eq_some_iff.1 hu).1
  rcases j with _ | _ | _ | _ | _ | _ | j
  all_goals first | exact hu | omega
theorem LikeD.insv (h : LikeD g os ls qs w) : VRIn w (.slice (some ⟨g, 0, none⟩) 2 2) smallC.ins := VRIn.blk (l := smallC.ins) h.ins (by decide) (by simp) rfl
theorem LikeD.outsv (h : LikeD g smOs ls qs w) : VRIn w (.slice (some ⟨g + 1, 0, none⟩) 1 1) smallC.outs := VRIn.blk (l := smallC.outs) h.outs (by decide) (by simp) rfl
theorem LikeD.localsv (h : LikeD g os smLs qs w) : VRIn w (.slice (some ⟨g + 2, 0, none⟩) 1 1) smallC.locals := VRIn.blk (l := smallC.locals) h.locals (by decide) (by simp) rfl
/-- Two equations in the example's block. -/
theorem LikeD.two (h : LikeD g os ls qs w) {q0 q1 : EQ} {v0 v1 : Value} (h0 : KIn w q0.e v0) (h1 : KIn w q1.e v1) (hq : qs.toList = qCells [q0, q1] [v0, v1]) : QIn w (.slice (some ⟨g + 6, 0, none⟩) 2 2) [q0, q1] :=
  QIn.blk (l := [q0, q1]) [v0, v1] h.eqs (show 2 ≤ maxLen by decide) rfl (fun i q kv e1 e2 => by
    rcases i with _ | _ | i
    · simp at e1 e2; subst e1 e2; exact h0
    · simp at e1 e2; subst e1 e2; exact h1
    · simp at e1) hq
/-- The example, its equations turned. -/
theorem LikeD.cp (h : LikeD g smOs smLs qs w) {q0 q1 : EQ} {v0 v1 : Value} (h0 : KIn w q0.e v0) (h1 : KIn w q1.e v1) (hq : qs.toList = qCells [q0, q1] [v0, v1]) : CPIn w (wrC [q0, q1]) (smX4 g) :=
  ⟨h.insv, h.outsv, h.localsv, h.two h0 h1 hq⟩
theorem LikeD.eqsv (h : LikeD g os ls (smQs g) w) : QIn w (.slice (some ⟨g + 6, 0, none⟩) 2 2) smallC.eqs := h.two (h.kin 3) (KIn.none _ _ _ _ _ _) rfl
/-- One variable in a block, its clock as it lies. -/
theorem VRIn.oneC {x : Nat} {n : ByteArray} {k : Int} {v : Value} {c : CK0} {t : TypeId} {fr : Nat × Nat} (h : w.heap[x]? = some (.cells #[.string n, .int .i64 k, v] t fr)) (hv : EdIn w v c) : VRIn w (.slice (some ⟨x, 0, none⟩) 1 1) [⟨n, k, c⟩] :=
  ⟨[v], rfl, SlC.blk h 1 1 _ (by decide) (by decide) rfl, fun i y q h1 h2 => by
    rcases i with _ | i
    · simp at h1 h2; subst h1 h2; exact hv
    · simp at h1⟩
theorem edIn_one {x : Nat} {n : ByteArray} {b : Bool} {t : TypeId} {fr : Nat × Nat} (h : w.heap[x]? = some (.cells #[.string n, .bool b] t fr)) : EdIn w (.slice (some ⟨x, 0, none⟩) 1 1) [(n, b)] := SlC.blk h 1 1 _ (by decide) (by decide) rfl
/-- One kid that is a name. -/
theorem kin_when {x : Nat} {n : ByteArray} {t : TypeId} {fr : Nat × Nat} (f s k m : Int) (nm : ByteArray) (h : w.heap[x]? = some (.cells #[.int .i64 2, .int .i64 0, .int .i64 0, .int .i64 0, .string n, NLc] t fr)) : KIn w (.mk f s k m nm [exV n]) (.slice (some ⟨x, 0, none⟩) 1 1) :=
  KIn.of (kvs := [NLc]) (SlC.blk h 1 1 _ (by decide) (by decide) rfl) (KsIn.consc (KIn.none _ _ _ _ _ _) (KsIn.nilc _))
end
set_option maxHeartbeats 4000000 in
theorem wrongC_out (k : Int) (hk : I64 k) (hbad : k < 0 ∨ 22 ≤ k) (w : World) : Calls Try.prog 6 #[.int .i64 k] w fun e w' => e = .returned (.bool true) ∧ Hid (Ext w w') := by
  obtain ⟨Q, hQ⟩ : ∃ Q, Q = fun e w' => e = Ending.returned (.bool true) ∧ Hid (Ext w w') := ⟨_, rfl⟩
  rw [← hQ]
  have HQ := Lib.hid hQ
  unfold I64 at hk
  clear hQ
  rcases hbad with hb | hb
  · go_enter Try.func6, Try.ntmps6
    go_wp2_with (first | (go_at_call 14; refine (alive13_any _).mono ?_; rintro e w1 ⟨rfl, H1⟩) | fail)
    rw [HQ.out]
    exact ⟨rfl, Lib.hid (H1.out.alloc _)⟩
  · have hb2 : ¬ k < 0 := by omega
    go_enter Try.func6, Try.ntmps6
    go_wp2_with (first | (go_at_call 14; refine (alive13_any _).mono ?_; rintro e w1 ⟨rfl, H1⟩) | fail)
    rw [HQ.out]
    exact ⟨rfl, Lib.hid (H1.out.alloc _)⟩
end Go.Proofs.Ytmommjagndadjaa
namespace Go.Proofs.Ytmommjagndadjaa
open Go.RowKit Go.Maps
set_option linter.unusedSimpArgs false
set_option linter.unusedVariables false
set_option maxRecDepth 100000

set_option maxHeartbeats 8000000 in
theorem wrongC_0 (w : World) : Calls Try.prog 6 #[.int .i64 ((0 : Nat) : Int)] w fun e w' => e = .returned (.bool true) ∧ Hid (Ext w w') := by
  obtain ⟨Q, hQ⟩ : ∃ Q, Q = fun e w' => e = Ending.returned (.bool true) ∧ Hid (Ext w w') := ⟨_, rfl⟩
  rw [← hQ]
  have HQ := Lib.hid hQ
  obtain ⟨x, hx⟩ : ∃ x, x = wantC 0 := ⟨_, rfl⟩
  have HA : Hid (AskC 0 x) := Lib.hid (by rw [hx]; exact ask_allC ⟨0, by omega⟩)
  have HX := Lib.hid hx
  clear hQ hx
  go_enter Try.func6, Try.ntmps6
  go_upto_region 7 with (first | (go_at_call 14; refine (alive13_any _).mono ?_; rintro e w1 ⟨rfl, H1⟩) | (go_at_call 18; refine (smallC_any _).mono ?_; rintro e w2 ⟨g, rfl, H2⟩) | (go_at_call 19; refine (var13_any _ _).mono ?_; rintro e w3 ⟨rfl, rfl⟩) | fail)
  obtain ⟨wa, hwa⟩ : ∃ z, z = w2.alloc (.cells (smCA g) 26) := ⟨_, rfl⟩
  have hea : Ext w wa := by rw [hwa]; exact ((H1.out.alloc _).trans H2.out.1).alloc _
  have hba : BoxV w2.heap.size (smCA g).toList wa := by rw [hwa]; exact BoxV.of_row (heap_alloc_last w2 _)
  have hla : LikeD g smOs smLs (smQs g) wa := by rw [hwa]; exact (H2.out.2.2.ext ((Ext.refl w2).alloc _)).d
  have hsa : wa.heap.size = w2.heap.size + 1 := by rw [hwa]; simp
  have hta : wa.cell? ⟨w1.heap.size, 0, none⟩ = some (.int .i64 x) := by
    rw [HX.out, hwa]
    exact (H2.out.1.alloc _).cell (want_at _ _ _ (heap_alloc_last w1 _) ⟨0, by omega⟩)
  rw [← hwa]
  have hgX : g + 6 < w2.heap.size := (Array.getElem?_eq_some_iff.1 H2.out.2.2.eqs).1
  have hTg : w1.heap.size < g := by
    have := H2.out.2.1
    simp at this
    omega
  have hwT := H1.out.size
  generalize w2.heap.size = X at hba hsa hgX ⊢
  generalize w1.heap.size = T at hta hTg hwT ⊢
  obtain ⟨wb, hwb⟩ : ∃ z, z = (wa.alloc (.cells #[.int .i64 2, .int .i64 0, .int .i64 0, .int .i64 0, .string nX, NLc] 33)).alloc (.cells #[.int .i64 2, .int .i64 0, .int .i64 0, .int .i64 0, .string nX, .slice none 0 0] 33) := ⟨_, rfl⟩
  have hxab : Ext wa wb := by rw [hwb]; exact ((Ext.refl wa).alloc _).alloc _
  have hby : BoxV (X + 1 + 1) [.int .i64 2, .int .i64 0, .int .i64 0, .int .i64 0, .string nX, NLc] wb := by
    rw [hwb]
    refine BoxV.of_row (e := 33) (cs := #[.int .i64 2, .int .i64 0, .int .i64 0, .int .i64 0, .string nX, NLc]) ?_
    exact heap_alloc_at _ _ _ (by simp [hsa])
  rw [← hwb]
  have HE : Hid (Ext w wb) := Lib.hid (hea.trans hxab)
  have hbx := hba.ext hxab
  have hlk := hla.ext hxab
  have htab := hxab.cell hta
  have HW : Hid (∀ k ∈ [X, g + 1, g + 2, g + 6], w.heap.size ≤ k ∧ T ≠ k) := Lib.hid (fun k hk => by
    simp only [List.mem_cons, List.not_mem_nil, or_false] at hk
    rcases hk with rfl | rfl | rfl | rfl <;> omega)
  have HLK := Lib.hid hlk
  have HBX := Lib.hid hbx
  have HBY := Lib.hid hby
  have HT := Lib.hid htab
  have x0 := hbx.cells 0 _ rfl
  have x1 := hbx.cells 1 _ rfl
  have x2 := hbx.cells 2 _ rfl
  have x3 := hbx.cells 3 _ rfl
  have xl := hbx.lt
  have xf := hbx.fz

  have n1 : ¬ (X = g + 6) := by omega
  have n2 : ¬ (g + 6 = X) := by omega
  have n3 : ¬ (X = g + 2) := by omega
  have n4 : ¬ (g + 2 = X) := by omega
  have n5 : ¬ (X = g + 1) := by omega
  have n6 : ¬ (g + 1 = X) := by omega
  clear hwa hea hba hla hsa hta hwb hxab hby hlk hbx htab H1 H2 hwT
  have HKB : Hid (Kb [X, g + 1, g + 2, g + 6] wb (wb)) := Lib.hid (Kb.refl _ _)
  go_upto_region 53 with (first | (go_at_call 20; refine (HA.out _ (smX4 g) (HLK.out.cp (q0 := sm0) (q1 := sm1) (HLK.out.kin 3) (KIn.none _ _ _ _ _ _) rfl)).mono ?_; rintro e3 w3 ⟨rfl, H3⟩) | fail)
  have hfin : Ext w w3 := (HKB.out.ext HE.out (fun k hk => (HW.out k hk).1)).trans H3.out
  have t3 := H3.out.cell (HKB.out.cell (S := [X, g + 1, g + 2, g + 6]) (fun hm => (HW.out T hm).2 rfl) HT.out)
  have tl := World.block_lt_of_cell? _ _ t3
  clear x0 x1 x2 x3 xl xf HKB H3 HA HLK HBX HBY HE HW
  go_wp2_with (first | (refine region_drew (by kernel_rfl) (by kernel_rfl) ?_; (repeat (go_big_quiet_step (exact in_drew (num13_any _ _)))); refine wpQuiet_nil ?_; rintro _ ⟨nq, rfl⟩) | fail)
  rw [HQ.out]
  exact ⟨rfl, Lib.hid (by repeat first | exact Ext.refl _ | assumption | refine Ext.drew ?_ | refine Ext.drewN ?_ _ | refine Ext.extBy ?_ _ | refine Ext.alloc ?_ _ | refine Ext.setCell ?_ (by simp; try omega) _ | (refine Ext.trans ?_ (by assumption)))⟩
set_option maxHeartbeats 8000000 in
theorem wrongC_4 (w : World) : Calls Try.prog 6 #[.int .i64 ((4 : Nat) : Int)] w fun e w' => e = .returned (.bool true) ∧ Hid (Ext w w') := by
  obtain ⟨Q, hQ⟩ : ∃ Q, Q = fun e w' => e = Ending.returned (.bool true) ∧ Hid (Ext w w') := ⟨_, rfl⟩
  rw [← hQ]
  have HQ := Lib.hid hQ
  obtain ⟨x, hx⟩ : ∃ x, x = wantC 4 := ⟨_, rfl⟩
  have HA : Hid (AskC 4 x) := Lib.hid (by rw [hx]; exact ask_allC ⟨4, by omega⟩)
  have HX := Lib.hid hx
  clear hQ hx
  go_enter Try.func6, Try.ntmps6
  go_upto_region 7 with (first | (go_at_call 14; refine (alive13_any _).mono ?_; rintro e w1 ⟨rfl, H1⟩) | (go_at_call 18; refine (smallC_any _).mono ?_; rintro e w2 ⟨g, rfl, H2⟩) | (go_at_call 19; refine (var13_any _ _).mono ?_; rintro e w3 ⟨rfl, rfl⟩) | fail)
  obtain ⟨wa, hwa⟩ : ∃ z, z = w2.alloc (.cells (smCA g) 26) := ⟨_, rfl⟩
  have hea : Ext w wa := by rw [hwa]; exact ((H1.out.alloc _).trans H2.out.1).alloc _
  have hba : BoxV w2.heap.size (smCA g).toList wa := by rw [hwa]; exact BoxV.of_row (heap_alloc_last w2 _)
  have hla : LikeD g smOs smLs (smQs g) wa := by rw [hwa]; exact (H2.out.2.2.ext ((Ext.refl w2).alloc _)).d
  have hsa : wa.heap.size = w2.heap.size + 1 := by rw [hwa]; simp
  have hta : wa.cell? ⟨w1.heap.size, 4, none⟩ = some (.int .i64 x) := by
    rw [HX.out, hwa]
    exact (H2.out.1.alloc _).cell (want_at _ _ _ (heap_alloc_last w1 _) ⟨4, by omega⟩)
  rw [← hwa]
  have hgX : g + 6 < w2.heap.size := (Array.getElem?_eq_some_iff.1 H2.out.2.2.eqs).1
  have hTg : w1.heap.size < g := by
    have := H2.out.2.1
    simp at this
    omega
  have hwT := H1.out.size
  generalize w2.heap.size = X at hba hsa hgX ⊢
  generalize w1.heap.size = T at hta hTg hwT ⊢
  obtain ⟨wb, hwb⟩ : ∃ z, z = (wa.alloc (.cells #[.int .i64 2, .int .i64 0, .int .i64 0, .int .i64 0, .string nX, NLc] 33)).alloc (.cells #[.int .i64 2, .int .i64 0, .int .i64 0, .int .i64 0, .string nX, .slice none 0 0] 33) := ⟨_, rfl⟩
  have hxab : Ext wa wb := by rw [hwb]; exact ((Ext.refl wa).alloc _).alloc _
  have hby : BoxV (X + 1 + 1) [.int .i64 2, .int .i64 0, .int .i64 0, .int .i64 0, .string nX, NLc] wb := by
    rw [hwb]
    refine BoxV.of_row (e := 33) (cs := #[.int .i64 2, .int .i64 0, .int .i64 0, .int .i64 0, .string nX, NLc]) ?_
    exact heap_alloc_at _ _ _ (by simp [hsa])
  rw [← hwb]
  have HE : Hid (Ext w wb) := Lib.hid (hea.trans hxab)
  have hbx := hba.ext hxab
  have hlk := hla.ext hxab
  have htab := hxab.cell hta
  have HW : Hid (∀ k ∈ [X, g + 1, g + 2, g + 6], w.heap.size ≤ k ∧ T ≠ k) := Lib.hid (fun k hk => by
    simp only [List.mem_cons, List.not_mem_nil, or_false] at hk
    rcases hk with rfl | rfl | rfl | rfl <;> omega)
  have HLK := Lib.hid hlk
  have HBX := Lib.hid hbx
  have HBY := Lib.hid hby
  have HT := Lib.hid htab
  have x0 := hbx.cells 0 _ rfl
  have x1 := hbx.cells 1 _ rfl
  have x2 := hbx.cells 2 _ rfl
  have x3 := hbx.cells 3 _ rfl
  have xl := hbx.lt
  have xf := hbx.fz
  have hb : BoxV (g + 6) (smQs g).toList wb := BoxV.of_row hlk.eqs
  have bl := hb.lt
  have bf := hb.fz
  have b1 := hb.cells 1 _ rfl
  clear hb
  have n1 : ¬ (X = g + 6) := by omega
  have n2 : ¬ (g + 6 = X) := by omega
  have n3 : ¬ (X = g + 2) := by omega
  have n4 : ¬ (g + 2 = X) := by omega
  have n5 : ¬ (X = g + 1) := by omega
  have n6 : ¬ (g + 1 = X) := by omega
  clear hwa hea hba hla hsa hta hwb hxab hby hlk hbx htab H1 H2 hwT
  have HKB : Hid (Kb [X, g + 1, g + 2, g + 6] wb (wb.setCell ⟨g + 6, 1, none⟩ (.string nX))) := Lib.hid (Kb.set _ _ _ (by simp) _)
  go_upto_region 53 with (first | (go_at_call 20; refine (HA.out _ (smX4 g) ((HLK.out.qset 1 (.string nX)).cp (q0 := defE nX smEC) (q1 := sm1) ((HLK.out.qset 1 (.string nX)).kin 3) (KIn.none _ _ _ _ _ _) rfl)).mono ?_; rintro e3 w3 ⟨rfl, H3⟩) | fail)
  have hfin : Ext w w3 := (HKB.out.ext HE.out (fun k hk => (HW.out k hk).1)).trans H3.out
  have t3 := H3.out.cell (HKB.out.cell (S := [X, g + 1, g + 2, g + 6]) (fun hm => (HW.out T hm).2 rfl) HT.out)
  have tl := World.block_lt_of_cell? _ _ t3
  clear x0 x1 x2 x3 xl xf HKB H3 HA HLK HBX HBY HE HW b1 bl bf
  go_wp2_with (first | (refine region_drew (by kernel_rfl) (by kernel_rfl) ?_; (repeat (go_big_quiet_step (exact in_drew (num13_any _ _)))); refine wpQuiet_nil ?_; rintro _ ⟨nq, rfl⟩) | fail)
  rw [HQ.out]
  exact ⟨rfl, Lib.hid (by repeat first | exact Ext.refl _ | assumption | refine Ext.drew ?_ | refine Ext.drewN ?_ _ | refine Ext.extBy ?_ _ | refine Ext.alloc ?_ _ | refine Ext.setCell ?_ (by simp; try omega) _ | (refine Ext.trans ?_ (by assumption)))⟩
set_option maxHeartbeats 8000000 in
theorem wrongC_6 (w : World) : Calls Try.prog 6 #[.int .i64 ((6 : Nat) : Int)] w fun e w' => e = .returned (.bool true) ∧ Hid (Ext w w') := by
  obtain ⟨Q, hQ⟩ : ∃ Q, Q = fun e w' => e = Ending.returned (.bool true) ∧ Hid (Ext w w') := ⟨_, rfl⟩
  rw [← hQ]
  have HQ := Lib.hid hQ
  obtain ⟨x, hx⟩ : ∃ x, x = wantC 6 := ⟨_, rfl⟩
  have HA : Hid (AskC 6 x) := Lib.hid (by rw [hx]; exact ask_allC ⟨6, by omega⟩)
  have HX := Lib.hid hx
  clear hQ hx
  go_enter Try.func6, Try.ntmps6
  go_upto_region 7 with (first | (go_at_call 14; refine (alive13_any _).mono ?_; rintro e w1 ⟨rfl, H1⟩) | (go_at_call 18; refine (smallC_any _).mono ?_; rintro e w2 ⟨g, rfl, H2⟩) | (go_at_call 19; refine (var13_any _ _).mono ?_; rintro e w3 ⟨rfl, rfl⟩) | fail)
  obtain ⟨wa, hwa⟩ : ∃ z, z = w2.alloc (.cells (smCA g) 26) := ⟨_, rfl⟩
  have hea : Ext w wa := by rw [hwa]; exact ((H1.out.alloc _).trans H2.out.1).alloc _
  have hba : BoxV w2.heap.size (smCA g).toList wa := by rw [hwa]; exact BoxV.of_row (heap_alloc_last w2 _)
  have hla : LikeD g smOs smLs (smQs g) wa := by rw [hwa]; exact (H2.out.2.2.ext ((Ext.refl w2).alloc _)).d
  have hsa : wa.heap.size = w2.heap.size + 1 := by rw [hwa]; simp
  have hta : wa.cell? ⟨w1.heap.size, 6, none⟩ = some (.int .i64 x) := by
    rw [HX.out, hwa]
    exact (H2.out.1.alloc _).cell (want_at _ _ _ (heap_alloc_last w1 _) ⟨6, by omega⟩)
  rw [← hwa]
  have hgX : g + 6 < w2.heap.size := (Array.getElem?_eq_some_iff.1 H2.out.2.2.eqs).1
  have hTg : w1.heap.size < g := by
    have := H2.out.2.1
    simp at this
    omega
  have hwT := H1.out.size
  generalize w2.heap.size = X at hba hsa hgX ⊢
  generalize w1.heap.size = T at hta hTg hwT ⊢
  obtain ⟨wb, hwb⟩ : ∃ z, z = (wa.alloc (.cells #[.int .i64 2, .int .i64 0, .int .i64 0, .int .i64 0, .string nX, NLc] 33)).alloc (.cells #[.int .i64 2, .int .i64 0, .int .i64 0, .int .i64 0, .string nX, .slice none 0 0] 33) := ⟨_, rfl⟩
  have hxab : Ext wa wb := by rw [hwb]; exact ((Ext.refl wa).alloc _).alloc _
  have hby : BoxV (X + 1 + 1) [.int .i64 2, .int .i64 0, .int .i64 0, .int .i64 0, .string nX, NLc] wb := by
    rw [hwb]
    refine BoxV.of_row (e := 33) (cs := #[.int .i64 2, .int .i64 0, .int .i64 0, .int .i64 0, .string nX, NLc]) ?_
    exact heap_alloc_at _ _ _ (by simp [hsa])
  rw [← hwb]
  have HE : Hid (Ext w wb) := Lib.hid (hea.trans hxab)
  have hbx := hba.ext hxab
  have hlk := hla.ext hxab
  have htab := hxab.cell hta
  have HW : Hid (∀ k ∈ [X, g + 1, g + 2, g + 6], w.heap.size ≤ k ∧ T ≠ k) := Lib.hid (fun k hk => by
    simp only [List.mem_cons, List.not_mem_nil, or_false] at hk
    rcases hk with rfl | rfl | rfl | rfl <;> omega)
  have HLK := Lib.hid hlk
  have HBX := Lib.hid hbx
  have HBY := Lib.hid hby
  have HT := Lib.hid htab
  have x0 := hbx.cells 0 _ rfl
  have x1 := hbx.cells 1 _ rfl
  have x2 := hbx.cells 2 _ rfl
  have x3 := hbx.cells 3 _ rfl
  have xl := hbx.lt
  have xf := hbx.fz
  have hb : BoxV (g + 6) (smQs g).toList wb := BoxV.of_row hlk.eqs
  have bl := hb.lt
  have bf := hb.fz
  have b0 := hb.cells 0 _ rfl
  clear hb
  have n1 : ¬ (X = g + 6) := by omega
  have n2 : ¬ (g + 6 = X) := by omega
  have n3 : ¬ (X = g + 2) := by omega
  have n4 : ¬ (g + 2 = X) := by omega
  have n5 : ¬ (X = g + 1) := by omega
  have n6 : ¬ (g + 1 = X) := by omega
  clear hwa hea hba hla hsa hta hwb hxab hby hlk hbx htab H1 H2 hwT
  have HKB : Hid (Kb [X, g + 1, g + 2, g + 6] wb (wb.setCell ⟨g + 6, 0, none⟩ (.int .i64 4))) := Lib.hid (Kb.set _ _ _ (by simp) _)
  go_upto_region 53 with (first | (go_at_call 20; refine (HA.out _ (smX4 g) ((HLK.out.qset 0 (.int .i64 4)).cp (q0 := ⟨4, nY, smEC, 0, eB, eB, 0, 0⟩) (q1 := sm1) ((HLK.out.qset 0 (.int .i64 4)).kin 3) (KIn.none _ _ _ _ _ _) rfl)).mono ?_; rintro e3 w3 ⟨rfl, H3⟩) | fail)
  have hfin : Ext w w3 := (HKB.out.ext HE.out (fun k hk => (HW.out k hk).1)).trans H3.out
  have t3 := H3.out.cell (HKB.out.cell (S := [X, g + 1, g + 2, g + 6]) (fun hm => (HW.out T hm).2 rfl) HT.out)
  have tl := World.block_lt_of_cell? _ _ t3
  clear x0 x1 x2 x3 xl xf HKB H3 HA HLK HBX HBY HE HW b0 bl bf
  go_wp2_with (first | (refine region_drew (by kernel_rfl) (by kernel_rfl) ?_; (repeat (go_big_quiet_step (exact in_drew (num13_any _ _)))); refine wpQuiet_nil ?_; rintro _ ⟨nq, rfl⟩) | fail)
  rw [HQ.out]
  exact ⟨rfl, Lib.hid (by repeat first | exact Ext.refl _ | assumption | refine Ext.drew ?_ | refine Ext.drewN ?_ _ | refine Ext.extBy ?_ _ | refine Ext.alloc ?_ _ | refine Ext.setCell ?_ (by simp; try omega) _ | (refine Ext.trans ?_ (by assumption)))⟩
set_option maxHeartbeats 8000000 in
theorem wrongC_7 (w : World) : Calls Try.prog 6 #[.int .i64 ((7 : Nat) : Int)] w fun e w' => e = .returned (.bool true) ∧ Hid (Ext w w') := by
  obtain ⟨Q, hQ⟩ : ∃ Q, Q = fun e w' => e = Ending.returned (.bool true) ∧ Hid (Ext w w') := ⟨_, rfl⟩
  rw [← hQ]
  have HQ := Lib.hid hQ
  obtain ⟨x, hx⟩ : ∃ x, x = wantC 7 := ⟨_, rfl⟩
  have HA : Hid (AskC 7 x) := Lib.hid (by rw [hx]; exact ask_allC ⟨7, by omega⟩)
  have HX := Lib.hid hx
  clear hQ hx
  go_enter Try.func6, Try.ntmps6
  go_upto_region 7 with (first | (go_at_call 14; refine (alive13_any _).mono ?_; rintro e w1 ⟨rfl, H1⟩) | (go_at_call 18; refine (smallC_any _).mono ?_; rintro e w2 ⟨g, rfl, H2⟩) | (go_at_call 19; refine (var13_any _ _).mono ?_; rintro e w3 ⟨rfl, rfl⟩) | fail)
  obtain ⟨wa, hwa⟩ : ∃ z, z = w2.alloc (.cells (smCA g) 26) := ⟨_, rfl⟩
  have hea : Ext w wa := by rw [hwa]; exact ((H1.out.alloc _).trans H2.out.1).alloc _
  have hba : BoxV w2.heap.size (smCA g).toList wa := by rw [hwa]; exact BoxV.of_row (heap_alloc_last w2 _)
  have hla : LikeD g smOs smLs (smQs g) wa := by rw [hwa]; exact (H2.out.2.2.ext ((Ext.refl w2).alloc _)).d
  have hsa : wa.heap.size = w2.heap.size + 1 := by rw [hwa]; simp
  have hta : wa.cell? ⟨w1.heap.size, 7, none⟩ = some (.int .i64 x) := by
    rw [HX.out, hwa]
    exact (H2.out.1.alloc _).cell (want_at _ _ _ (heap_alloc_last w1 _) ⟨7, by omega⟩)
  rw [← hwa]
  have hgX : g + 6 < w2.heap.size := (Array.getElem?_eq_some_iff.1 H2.out.2.2.eqs).1
  have hTg : w1.heap.size < g := by
    have := H2.out.2.1
    simp at this
    omega
  have hwT := H1.out.size
  generalize w2.heap.size = X at hba hsa hgX ⊢
  generalize w1.heap.size = T at hta hTg hwT ⊢
  obtain ⟨wb, hwb⟩ : ∃ z, z = (wa.alloc (.cells #[.int .i64 2, .int .i64 0, .int .i64 0, .int .i64 0, .string nX, NLc] 33)).alloc (.cells #[.int .i64 2, .int .i64 0, .int .i64 0, .int .i64 0, .string nX, .slice none 0 0] 33) := ⟨_, rfl⟩
  have hxab : Ext wa wb := by rw [hwb]; exact ((Ext.refl wa).alloc _).alloc _
  have hby : BoxV (X + 1 + 1) [.int .i64 2, .int .i64 0, .int .i64 0, .int .i64 0, .string nX, NLc] wb := by
    rw [hwb]
    refine BoxV.of_row (e := 33) (cs := #[.int .i64 2, .int .i64 0, .int .i64 0, .int .i64 0, .string nX, NLc]) ?_
    exact heap_alloc_at _ _ _ (by simp [hsa])
  rw [← hwb]
  have HE : Hid (Ext w wb) := Lib.hid (hea.trans hxab)
  have hbx := hba.ext hxab
  have hlk := hla.ext hxab
  have htab := hxab.cell hta
  have HW : Hid (∀ k ∈ [X, g + 1, g + 2, g + 6], w.heap.size ≤ k ∧ T ≠ k) := Lib.hid (fun k hk => by
    simp only [List.mem_cons, List.not_mem_nil, or_false] at hk
    rcases hk with rfl | rfl | rfl | rfl <;> omega)
  have HLK := Lib.hid hlk
  have HBX := Lib.hid hbx
  have HBY := Lib.hid hby
  have HT := Lib.hid htab
  have x0 := hbx.cells 0 _ rfl
  have x1 := hbx.cells 1 _ rfl
  have x2 := hbx.cells 2 _ rfl
  have x3 := hbx.cells 3 _ rfl
  have xl := hbx.lt
  have xf := hbx.fz
  have hb : BoxV (g + 6) (smQs g).toList wb := BoxV.of_row hlk.eqs
  have bl := hb.lt
  have bf := hb.fz
  have b21 := hb.cells 21 _ rfl
  clear hb
  have n1 : ¬ (X = g + 6) := by omega
  have n2 : ¬ (g + 6 = X) := by omega
  have n3 : ¬ (X = g + 2) := by omega
  have n4 : ¬ (g + 2 = X) := by omega
  have n5 : ¬ (X = g + 1) := by omega
  have n6 : ¬ (g + 1 = X) := by omega
  clear hwa hea hba hla hsa hta hwb hxab hby hlk hbx htab H1 H2 hwT
  have HKB : Hid (Kb [X, g + 1, g + 2, g + 6] wb (wb.setCell ⟨g + 6, 21, none⟩ (.int .i64 200))) := Lib.hid (Kb.set _ _ _ (by simp) _)
  go_upto_region 53 with (first | (go_at_call 20; refine (HA.out _ (smX4 g) ((HLK.out.qset 21 (.int .i64 200)).cp (q0 := sm0) (q1 := memE nM 200 nY nR) ((HLK.out.qset 21 (.int .i64 200)).kin 3) (KIn.none _ _ _ _ _ _) rfl)).mono ?_; rintro e3 w3 ⟨rfl, H3⟩) | fail)
  have hfin : Ext w w3 := (HKB.out.ext HE.out (fun k hk => (HW.out k hk).1)).trans H3.out
  have t3 := H3.out.cell (HKB.out.cell (S := [X, g + 1, g + 2, g + 6]) (fun hm => (HW.out T hm).2 rfl) HT.out)
  have tl := World.block_lt_of_cell? _ _ t3
  clear x0 x1 x2 x3 xl xf HKB H3 HA HLK HBX HBY HE HW b21 bl bf
  go_wp2_with (first | (refine region_drew (by kernel_rfl) (by kernel_rfl) ?_; (repeat (go_big_quiet_step (exact in_drew (num13_any _ _)))); refine wpQuiet_nil ?_; rintro _ ⟨nq, rfl⟩) | fail)
  rw [HQ.out]
  exact ⟨rfl, Lib.hid (by repeat first | exact Ext.refl _ | assumption | refine Ext.drew ?_ | refine Ext.drewN ?_ _ | refine Ext.extBy ?_ _ | refine Ext.alloc ?_ _ | refine Ext.setCell ?_ (by simp; try omega) _ | (refine Ext.trans ?_ (by assumption)))⟩
set_option maxHeartbeats 8000000 in
theorem wrongC_9 (w : World) : Calls Try.prog 6 #[.int .i64 ((9 : Nat) : Int)] w fun e w' => e = .returned (.bool true) ∧ Hid (Ext w w') := by
  obtain ⟨Q, hQ⟩ : ∃ Q, Q = fun e w' => e = Ending.returned (.bool true) ∧ Hid (Ext w w') := ⟨_, rfl⟩
  rw [← hQ]
  have HQ := Lib.hid hQ
  obtain ⟨x, hx⟩ : ∃ x, x = wantC 9 := ⟨_, rfl⟩
  have HA : Hid (AskC 9 x) := Lib.hid (by rw [hx]; exact ask_allC ⟨9, by omega⟩)
  have HX := Lib.hid hx
  clear hQ hx
  go_enter Try.func6, Try.ntmps6
  go_upto_region 7 with (first | (go_at_call 14; refine (alive13_any _).mono ?_; rintro e w1 ⟨rfl, H1⟩) | (go_at_call 18; refine (smallC_any _).mono ?_; rintro e w2 ⟨g, rfl, H2⟩) | (go_at_call 19; refine (var13_any _ _).mono ?_; rintro e w3 ⟨rfl, rfl⟩) | fail)
  obtain ⟨wa, hwa⟩ : ∃ z, z = w2.alloc (.cells (smCA g) 26) := ⟨_, rfl⟩
  have hea : Ext w wa := by rw [hwa]; exact ((H1.out.alloc _).trans H2.out.1).alloc _
  have hba : BoxV w2.heap.size (smCA g).toList wa := by rw [hwa]; exact BoxV.of_row (heap_alloc_last w2 _)
  have hla : LikeD g smOs smLs (smQs g) wa := by rw [hwa]; exact (H2.out.2.2.ext ((Ext.refl w2).alloc _)).d
  have hsa : wa.heap.size = w2.heap.size + 1 := by rw [hwa]; simp
  have hta : wa.cell? ⟨w1.heap.size, 9, none⟩ = some (.int .i64 x) := by
    rw [HX.out, hwa]
    exact (H2.out.1.alloc _).cell (want_at _ _ _ (heap_alloc_last w1 _) ⟨9, by omega⟩)
  rw [← hwa]
  have hgX : g + 6 < w2.heap.size := (Array.getElem?_eq_some_iff.1 H2.out.2.2.eqs).1
  have hTg : w1.heap.size < g := by
    have := H2.out.2.1
    simp at this
    omega
  have hwT := H1.out.size
  generalize w2.heap.size = X at hba hsa hgX ⊢
  generalize w1.heap.size = T at hta hTg hwT ⊢
  obtain ⟨wb, hwb⟩ : ∃ z, z = (wa.alloc (.cells #[.int .i64 2, .int .i64 0, .int .i64 0, .int .i64 0, .string nX, NLc] 33)).alloc (.cells #[.int .i64 2, .int .i64 0, .int .i64 0, .int .i64 0, .string nX, .slice none 0 0] 33) := ⟨_, rfl⟩
  have hxab : Ext wa wb := by rw [hwb]; exact ((Ext.refl wa).alloc _).alloc _
  have hby : BoxV (X + 1 + 1) [.int .i64 2, .int .i64 0, .int .i64 0, .int .i64 0, .string nX, NLc] wb := by
    rw [hwb]
    refine BoxV.of_row (e := 33) (cs := #[.int .i64 2, .int .i64 0, .int .i64 0, .int .i64 0, .string nX, NLc]) ?_
    exact heap_alloc_at _ _ _ (by simp [hsa])
  rw [← hwb]
  have HE : Hid (Ext w wb) := Lib.hid (hea.trans hxab)
  have hbx := hba.ext hxab
  have hlk := hla.ext hxab
  have htab := hxab.cell hta
  have HW : Hid (∀ k ∈ [X, g + 1, g + 2, g + 6], w.heap.size ≤ k ∧ T ≠ k) := Lib.hid (fun k hk => by
    simp only [List.mem_cons, List.not_mem_nil, or_false] at hk
    rcases hk with rfl | rfl | rfl | rfl <;> omega)
  have HLK := Lib.hid hlk
  have HBX := Lib.hid hbx
  have HBY := Lib.hid hby
  have HT := Lib.hid htab
  have x0 := hbx.cells 0 _ rfl
  have x1 := hbx.cells 1 _ rfl
  have x2 := hbx.cells 2 _ rfl
  have x3 := hbx.cells 3 _ rfl
  have xl := hbx.lt
  have xf := hbx.fz
  have hb : BoxV (g + 6) (smQs g).toList wb := BoxV.of_row hlk.eqs
  have bl := hb.lt
  have bf := hb.fz
  have b3 := hb.cells 3 _ rfl
  clear hb
  have n1 : ¬ (X = g + 6) := by omega
  have n2 : ¬ (g + 6 = X) := by omega
  have n3 : ¬ (X = g + 2) := by omega
  have n4 : ¬ (g + 2 = X) := by omega
  have n5 : ¬ (X = g + 1) := by omega
  have n6 : ¬ (g + 1 = X) := by omega
  clear hwa hea hba hla hsa hta hwb hxab hby hlk hbx htab H1 H2 hwT
  have HKB : Hid (Kb [X, g + 1, g + 2, g + 6] wb (wb.setCell ⟨g + 6, 3, none⟩ (.int .i64 14))) := Lib.hid (Kb.set _ _ _ (by simp) _)
  go_upto_region 53 with (first | (go_at_call 20; refine (HA.out _ (smX4 g) ((HLK.out.qset 3 (.int .i64 14)).cp (q0 := defE nY (.mk 4 14 0 0 eB [exV nM, exV nX])) (q1 := sm1) ((HLK.out.qset 3 (.int .i64 14)).kin 14) (KIn.none _ _ _ _ _ _) rfl)).mono ?_; rintro e3 w3 ⟨rfl, H3⟩) | fail)
  have hfin : Ext w w3 := (HKB.out.ext HE.out (fun k hk => (HW.out k hk).1)).trans H3.out
  have t3 := H3.out.cell (HKB.out.cell (S := [X, g + 1, g + 2, g + 6]) (fun hm => (HW.out T hm).2 rfl) HT.out)
  have tl := World.block_lt_of_cell? _ _ t3
  clear x0 x1 x2 x3 xl xf HKB H3 HA HLK HBX HBY HE HW b3 bl bf
  go_wp2_with (first | (refine region_drew (by kernel_rfl) (by kernel_rfl) ?_; (repeat (go_big_quiet_step (exact in_drew (num13_any _ _)))); refine wpQuiet_nil ?_; rintro _ ⟨nq, rfl⟩) | fail)
  rw [HQ.out]
  exact ⟨rfl, Lib.hid (by repeat first | exact Ext.refl _ | assumption | refine Ext.drew ?_ | refine Ext.drewN ?_ _ | refine Ext.extBy ?_ _ | refine Ext.alloc ?_ _ | refine Ext.setCell ?_ (by simp; try omega) _ | (refine Ext.trans ?_ (by assumption)))⟩
set_option maxHeartbeats 8000000 in
theorem wrongC_10 (w : World) : Calls Try.prog 6 #[.int .i64 ((10 : Nat) : Int)] w fun e w' => e = .returned (.bool true) ∧ Hid (Ext w w') := by
  obtain ⟨Q, hQ⟩ : ∃ Q, Q = fun e w' => e = Ending.returned (.bool true) ∧ Hid (Ext w w') := ⟨_, rfl⟩
  rw [← hQ]
  have HQ := Lib.hid hQ
  obtain ⟨x, hx⟩ : ∃ x, x = wantC 10 := ⟨_, rfl⟩
  have HA : Hid (AskC 10 x) := Lib.hid (by rw [hx]; exact ask_allC ⟨10, by omega⟩)
  have HX := Lib.hid hx
  clear hQ hx
  go_enter Try.func6, Try.ntmps6
  go_upto_region 7 with (first | (go_at_call 14; refine (alive13_any _).mono ?_; rintro e w1 ⟨rfl, H1⟩) | (go_at_call 18; refine (smallC_any _).mono ?_; rintro e w2 ⟨g, rfl, H2⟩) | (go_at_call 19; refine (var13_any _ _).mono ?_; rintro e w3 ⟨rfl, rfl⟩) | fail)
  obtain ⟨wa, hwa⟩ : ∃ z, z = w2.alloc (.cells (smCA g) 26) := ⟨_, rfl⟩
  have hea : Ext w wa := by rw [hwa]; exact ((H1.out.alloc _).trans H2.out.1).alloc _
  have hba : BoxV w2.heap.size (smCA g).toList wa := by rw [hwa]; exact BoxV.of_row (heap_alloc_last w2 _)
  have hla : LikeD g smOs smLs (smQs g) wa := by rw [hwa]; exact (H2.out.2.2.ext ((Ext.refl w2).alloc _)).d
  have hsa : wa.heap.size = w2.heap.size + 1 := by rw [hwa]; simp
  have hta : wa.cell? ⟨w1.heap.size, 10, none⟩ = some (.int .i64 x) := by
    rw [HX.out, hwa]
    exact (H2.out.1.alloc _).cell (want_at _ _ _ (heap_alloc_last w1 _) ⟨10, by omega⟩)
  rw [← hwa]
  have hgX : g + 6 < w2.heap.size := (Array.getElem?_eq_some_iff.1 H2.out.2.2.eqs).1
  have hTg : w1.heap.size < g := by
    have := H2.out.2.1
    simp at this
    omega
  have hwT := H1.out.size
  generalize w2.heap.size = X at hba hsa hgX ⊢
  generalize w1.heap.size = T at hta hTg hwT ⊢
  obtain ⟨wb, hwb⟩ : ∃ z, z = (wa.alloc (.cells #[.int .i64 2, .int .i64 0, .int .i64 0, .int .i64 0, .string nX, NLc] 33)).alloc (.cells #[.int .i64 2, .int .i64 0, .int .i64 0, .int .i64 0, .string nX, .slice none 0 0] 33) := ⟨_, rfl⟩
  have hxab : Ext wa wb := by rw [hwb]; exact ((Ext.refl wa).alloc _).alloc _
  have hby : BoxV (X + 1 + 1) [.int .i64 2, .int .i64 0, .int .i64 0, .int .i64 0, .string nX, NLc] wb := by
    rw [hwb]
    refine BoxV.of_row (e := 33) (cs := #[.int .i64 2, .int .i64 0, .int .i64 0, .int .i64 0, .string nX, NLc]) ?_
    exact heap_alloc_at _ _ _ (by simp [hsa])
  rw [← hwb]
  have HE : Hid (Ext w wb) := Lib.hid (hea.trans hxab)
  have hbx := hba.ext hxab
  have hlk := hla.ext hxab
  have htab := hxab.cell hta
  have HW : Hid (∀ k ∈ [X, g + 1, g + 2, g + 6], w.heap.size ≤ k ∧ T ≠ k) := Lib.hid (fun k hk => by
    simp only [List.mem_cons, List.not_mem_nil, or_false] at hk
    rcases hk with rfl | rfl | rfl | rfl <;> omega)
  have HLK := Lib.hid hlk
  have HBX := Lib.hid hbx
  have HBY := Lib.hid hby
  have HT := Lib.hid htab
  have x0 := hbx.cells 0 _ rfl
  have x1 := hbx.cells 1 _ rfl
  have x2 := hbx.cells 2 _ rfl
  have x3 := hbx.cells 3 _ rfl
  have xl := hbx.lt
  have xf := hbx.fz
  have hb : BoxV (g + 6) (smQs g).toList wb := BoxV.of_row hlk.eqs
  have bl := hb.lt
  have bf := hb.fz
  have b23 := hb.cells 23 _ rfl
  clear hb
  have n1 : ¬ (X = g + 6) := by omega
  have n2 : ¬ (g + 6 = X) := by omega
  have n3 : ¬ (X = g + 2) := by omega
  have n4 : ¬ (g + 2 = X) := by omega
  have n5 : ¬ (X = g + 1) := by omega
  have n6 : ¬ (g + 1 = X) := by omega
  clear hwa hea hba hla hsa hta hwb hxab hby hlk hbx htab H1 H2 hwT
  have HKB : Hid (Kb [X, g + 1, g + 2, g + 6] wb (wb.setCell ⟨g + 6, 23, none⟩ (.string nX))) := Lib.hid (Kb.set _ _ _ (by simp) _)
  go_upto_region 53 with (first | (go_at_call 20; refine (HA.out _ (smX4 g) ((HLK.out.qset 23 (.string nX)).cp (q0 := sm0) (q1 := memE nM 0 nY nX) ((HLK.out.qset 23 (.string nX)).kin 3) (KIn.none _ _ _ _ _ _) rfl)).mono ?_; rintro e3 w3 ⟨rfl, H3⟩) | fail)
  have hfin : Ext w w3 := (HKB.out.ext HE.out (fun k hk => (HW.out k hk).1)).trans H3.out
  have t3 := H3.out.cell (HKB.out.cell (S := [X, g + 1, g + 2, g + 6]) (fun hm => (HW.out T hm).2 rfl) HT.out)
  have tl := World.block_lt_of_cell? _ _ t3
  clear x0 x1 x2 x3 xl xf HKB H3 HA HLK HBX HBY HE HW b23 bl bf
  go_wp2_with (first | (refine region_drew (by kernel_rfl) (by kernel_rfl) ?_; (repeat (go_big_quiet_step (exact in_drew (num13_any _ _)))); refine wpQuiet_nil ?_; rintro _ ⟨nq, rfl⟩) | fail)
  rw [HQ.out]
  exact ⟨rfl, Lib.hid (by repeat first | exact Ext.refl _ | assumption | refine Ext.drew ?_ | refine Ext.drewN ?_ _ | refine Ext.extBy ?_ _ | refine Ext.alloc ?_ _ | refine Ext.setCell ?_ (by simp; try omega) _ | (refine Ext.trans ?_ (by assumption)))⟩
set_option maxHeartbeats 8000000 in
theorem wrongC_11 (w : World) : Calls Try.prog 6 #[.int .i64 ((11 : Nat) : Int)] w fun e w' => e = .returned (.bool true) ∧ Hid (Ext w w') := by
  obtain ⟨Q, hQ⟩ : ∃ Q, Q = fun e w' => e = Ending.returned (.bool true) ∧ Hid (Ext w w') := ⟨_, rfl⟩
  rw [← hQ]
  have HQ := Lib.hid hQ
  obtain ⟨x, hx⟩ : ∃ x, x = wantC 11 := ⟨_, rfl⟩
  have HA : Hid (AskC 11 x) := Lib.hid (by rw [hx]; exact ask_allC ⟨11, by omega⟩)
  have HX := Lib.hid hx
  clear hQ hx
  go_enter Try.func6, Try.ntmps6
  go_upto_region 7 with (first | (go_at_call 14; refine (alive13_any _).mono ?_; rintro e w1 ⟨rfl, H1⟩) | (go_at_call 18; refine (smallC_any _).mono ?_; rintro e w2 ⟨g, rfl, H2⟩) | (go_at_call 19; refine (var13_any _ _).mono ?_; rintro e w3 ⟨rfl, rfl⟩) | fail)
  obtain ⟨wa, hwa⟩ : ∃ z, z = w2.alloc (.cells (smCA g) 26) := ⟨_, rfl⟩
  have hea : Ext w wa := by rw [hwa]; exact ((H1.out.alloc _).trans H2.out.1).alloc _
  have hba : BoxV w2.heap.size (smCA g).toList wa := by rw [hwa]; exact BoxV.of_row (heap_alloc_last w2 _)
  have hla : LikeD g smOs smLs (smQs g) wa := by rw [hwa]; exact (H2.out.2.2.ext ((Ext.refl w2).alloc _)).d
  have hsa : wa.heap.size = w2.heap.size + 1 := by rw [hwa]; simp
  have hta : wa.cell? ⟨w1.heap.size, 11, none⟩ = some (.int .i64 x) := by
    rw [HX.out, hwa]
    exact (H2.out.1.alloc _).cell (want_at _ _ _ (heap_alloc_last w1 _) ⟨11, by omega⟩)
  rw [← hwa]
  have hgX : g + 6 < w2.heap.size := (Array.getElem?_eq_some_iff.1 H2.out.2.2.eqs).1
  have hTg : w1.heap.size < g := by
    have := H2.out.2.1
    simp at this
    omega
  have hwT := H1.out.size
  generalize w2.heap.size = X at hba hsa hgX ⊢
  generalize w1.heap.size = T at hta hTg hwT ⊢
  obtain ⟨wb, hwb⟩ : ∃ z, z = (wa.alloc (.cells #[.int .i64 2, .int .i64 0, .int .i64 0, .int .i64 0, .string nX, NLc] 33)).alloc (.cells #[.int .i64 2, .int .i64 0, .int .i64 0, .int .i64 0, .string nX, .slice none 0 0] 33) := ⟨_, rfl⟩
  have hxab : Ext wa wb := by rw [hwb]; exact ((Ext.refl wa).alloc _).alloc _
  have hby : BoxV (X + 1 + 1) [.int .i64 2, .int .i64 0, .int .i64 0, .int .i64 0, .string nX, NLc] wb := by
    rw [hwb]
    refine BoxV.of_row (e := 33) (cs := #[.int .i64 2, .int .i64 0, .int .i64 0, .int .i64 0, .string nX, NLc]) ?_
    exact heap_alloc_at _ _ _ (by simp [hsa])
  rw [← hwb]
  have HE : Hid (Ext w wb) := Lib.hid (hea.trans hxab)
  have hbx := hba.ext hxab
  have hlk := hla.ext hxab
  have htab := hxab.cell hta
  have HW : Hid (∀ k ∈ [X, g + 1, g + 2, g + 6], w.heap.size ≤ k ∧ T ≠ k) := Lib.hid (fun k hk => by
    simp only [List.mem_cons, List.not_mem_nil, or_false] at hk
    rcases hk with rfl | rfl | rfl | rfl <;> omega)
  have HLK := Lib.hid hlk
  have HBX := Lib.hid hbx
  have HBY := Lib.hid hby
  have HT := Lib.hid htab
  have x0 := hbx.cells 0 _ rfl
  have x1 := hbx.cells 1 _ rfl
  have x2 := hbx.cells 2 _ rfl
  have x3 := hbx.cells 3 _ rfl
  have xl := hbx.lt
  have xf := hbx.fz
  have hb : BoxV (g + 6) (smQs g).toList wb := BoxV.of_row hlk.eqs
  have bl := hb.lt
  have bf := hb.fz
  have b22 := hb.cells 22 _ rfl
  clear hb
  have n1 : ¬ (X = g + 6) := by omega
  have n2 : ¬ (g + 6 = X) := by omega
  have n3 : ¬ (X = g + 2) := by omega
  have n4 : ¬ (g + 2 = X) := by omega
  have n5 : ¬ (X = g + 1) := by omega
  have n6 : ¬ (g + 1 = X) := by omega
  clear hwa hea hba hla hsa hta hwb hxab hby hlk hbx htab H1 H2 hwT
  have HKB : Hid (Kb [X, g + 1, g + 2, g + 6] wb (wb.setCell ⟨g + 6, 22, none⟩ (.string nR))) := Lib.hid (Kb.set _ _ _ (by simp) _)
  go_upto_region 53 with (first | (go_at_call 20; refine (HA.out _ (smX4 g) ((HLK.out.qset 22 (.string nR)).cp (q0 := sm0) (q1 := memE nM 0 nR nR) ((HLK.out.qset 22 (.string nR)).kin 3) (KIn.none _ _ _ _ _ _) rfl)).mono ?_; rintro e3 w3 ⟨rfl, H3⟩) | fail)
  have hfin : Ext w w3 := (HKB.out.ext HE.out (fun k hk => (HW.out k hk).1)).trans H3.out
  have t3 := H3.out.cell (HKB.out.cell (S := [X, g + 1, g + 2, g + 6]) (fun hm => (HW.out T hm).2 rfl) HT.out)
  have tl := World.block_lt_of_cell? _ _ t3
  clear x0 x1 x2 x3 xl xf HKB H3 HA HLK HBX HBY HE HW b22 bl bf
  go_wp2_with (first | (refine region_drew (by kernel_rfl) (by kernel_rfl) ?_; (repeat (go_big_quiet_step (exact in_drew (num13_any _ _)))); refine wpQuiet_nil ?_; rintro _ ⟨nq, rfl⟩) | fail)
  rw [HQ.out]
  exact ⟨rfl, Lib.hid (by repeat first | exact Ext.refl _ | assumption | refine Ext.drew ?_ | refine Ext.drewN ?_ _ | refine Ext.extBy ?_ _ | refine Ext.alloc ?_ _ | refine Ext.setCell ?_ (by simp; try omega) _ | (refine Ext.trans ?_ (by assumption)))⟩
set_option maxHeartbeats 8000000 in
theorem wrongC_17 (w : World) : Calls Try.prog 6 #[.int .i64 ((17 : Nat) : Int)] w fun e w' => e = .returned (.bool true) ∧ Hid (Ext w w') := by
  obtain ⟨Q, hQ⟩ : ∃ Q, Q = fun e w' => e = Ending.returned (.bool true) ∧ Hid (Ext w w') := ⟨_, rfl⟩
  rw [← hQ]
  have HQ := Lib.hid hQ
  obtain ⟨x, hx⟩ : ∃ x, x = wantC 17 := ⟨_, rfl⟩
  have HA : Hid (AskC 17 x) := Lib.hid (by rw [hx]; exact ask_allC ⟨17, by omega⟩)
  have HX := Lib.hid hx
  clear hQ hx
  go_enter Try.func6, Try.ntmps6
  go_upto_region 7 with (first | (go_at_call 14; refine (alive13_any _).mono ?_; rintro e w1 ⟨rfl, H1⟩) | (go_at_call 18; refine (smallC_any _).mono ?_; rintro e w2 ⟨g, rfl, H2⟩) | (go_at_call 19; refine (var13_any _ _).mono ?_; rintro e w3 ⟨rfl, rfl⟩) | fail)
  obtain ⟨wa, hwa⟩ : ∃ z, z = w2.alloc (.cells (smCA g) 26) := ⟨_, rfl⟩
  have hea : Ext w wa := by rw [hwa]; exact ((H1.out.alloc _).trans H2.out.1).alloc _
  have hba : BoxV w2.heap.size (smCA g).toList wa := by rw [hwa]; exact BoxV.of_row (heap_alloc_last w2 _)
  have hla : LikeD g smOs smLs (smQs g) wa := by rw [hwa]; exact (H2.out.2.2.ext ((Ext.refl w2).alloc _)).d
  have hsa : wa.heap.size = w2.heap.size + 1 := by rw [hwa]; simp
  have hta : wa.cell? ⟨w1.heap.size, 17, none⟩ = some (.int .i64 x) := by
    rw [HX.out, hwa]
    exact (H2.out.1.alloc _).cell (want_at _ _ _ (heap_alloc_last w1 _) ⟨17, by omega⟩)
  rw [← hwa]
  have hgX : g + 6 < w2.heap.size := (Array.getElem?_eq_some_iff.1 H2.out.2.2.eqs).1
  have hTg : w1.heap.size < g := by
    have := H2.out.2.1
    simp at this
    omega
  have hwT := H1.out.size
  generalize w2.heap.size = X at hba hsa hgX ⊢
  generalize w1.heap.size = T at hta hTg hwT ⊢
  obtain ⟨wb, hwb⟩ : ∃ z, z = (wa.alloc (.cells #[.int .i64 2, .int .i64 0, .int .i64 0, .int .i64 0, .string nX, NLc] 33)).alloc (.cells #[.int .i64 2, .int .i64 0, .int .i64 0, .int .i64 0, .string nX, .slice none 0 0] 33) := ⟨_, rfl⟩
  have hxab : Ext wa wb := by rw [hwb]; exact ((Ext.refl wa).alloc _).alloc _
  have hby : BoxV (X + 1 + 1) [.int .i64 2, .int .i64 0, .int .i64 0, .int .i64 0, .string nX, NLc] wb := by
    rw [hwb]
    refine BoxV.of_row (e := 33) (cs := #[.int .i64 2, .int .i64 0, .int .i64 0, .int .i64 0, .string nX, NLc]) ?_
    exact heap_alloc_at _ _ _ (by simp [hsa])
  rw [← hwb]
  have HE : Hid (Ext w wb) := Lib.hid (hea.trans hxab)
  have hbx := hba.ext hxab
  have hlk := hla.ext hxab
  have htab := hxab.cell hta
  have HW : Hid (∀ k ∈ [X, g + 1, g + 2, g + 6], w.heap.size ≤ k ∧ T ≠ k) := Lib.hid (fun k hk => by
    simp only [List.mem_cons, List.not_mem_nil, or_false] at hk
    rcases hk with rfl | rfl | rfl | rfl <;> omega)
  have HLK := Lib.hid hlk
  have HBX := Lib.hid hbx
  have HBY := Lib.hid hby
  have HT := Lib.hid htab
  have x0 := hbx.cells 0 _ rfl
  have x1 := hbx.cells 1 _ rfl
  have x2 := hbx.cells 2 _ rfl
  have x3 := hbx.cells 3 _ rfl
  have xl := hbx.lt
  have xf := hbx.fz
  have hb : BoxV (g + 6) (smQs g).toList wb := BoxV.of_row hlk.eqs
  have bl := hb.lt
  have bf := hb.fz
  have b22 := hb.cells 22 _ rfl
  clear hb
  have n1 : ¬ (X = g + 6) := by omega
  have n2 : ¬ (g + 6 = X) := by omega
  have n3 : ¬ (X = g + 2) := by omega
  have n4 : ¬ (g + 2 = X) := by omega
  have n5 : ¬ (X = g + 1) := by omega
  have n6 : ¬ (g + 1 = X) := by omega
  clear hwa hea hba hla hsa hta hwb hxab hby hlk hbx htab H1 H2 hwT
  have HKB : Hid (Kb [X, g + 1, g + 2, g + 6] wb (wb.setCell ⟨g + 6, 22, none⟩ (.string nQ))) := Lib.hid (Kb.set _ _ _ (by simp) _)
  go_upto_region 53 with (first | (go_at_call 20; refine (HA.out _ (smX4 g) ((HLK.out.qset 22 (.string nQ)).cp (q0 := sm0) (q1 := memE nM 0 nQ nR) ((HLK.out.qset 22 (.string nQ)).kin 3) (KIn.none _ _ _ _ _ _) rfl)).mono ?_; rintro e3 w3 ⟨rfl, H3⟩) | fail)
  have hfin : Ext w w3 := (HKB.out.ext HE.out (fun k hk => (HW.out k hk).1)).trans H3.out
  have t3 := H3.out.cell (HKB.out.cell (S := [X, g + 1, g + 2, g + 6]) (fun hm => (HW.out T hm).2 rfl) HT.out)
  have tl := World.block_lt_of_cell? _ _ t3
  clear x0 x1 x2 x3 xl xf HKB H3 HA HLK HBX HBY HE HW b22 bl bf
  go_wp2_with (first | (refine region_drew (by kernel_rfl) (by kernel_rfl) ?_; (repeat (go_big_quiet_step (exact in_drew (num13_any _ _)))); refine wpQuiet_nil ?_; rintro _ ⟨nq, rfl⟩) | fail)
  rw [HQ.out]
  exact ⟨rfl, Lib.hid (by repeat first | exact Ext.refl _ | assumption | refine Ext.drew ?_ | refine Ext.drewN ?_ _ | refine Ext.extBy ?_ _ | refine Ext.alloc ?_ _ | refine Ext.setCell ?_ (by simp; try omega) _ | (refine Ext.trans ?_ (by assumption)))⟩
end Go.Proofs.Ytmommjagndadjaa
namespace Go.Proofs.Ytmommjagndadjaa
open Go.RowKit Go.Maps
set_option linter.unusedSimpArgs false
set_option linter.unusedVariables false
set_option maxRecDepth 100000

theorem LikeD.tail {g : Nat} {os ls : Array Value} {w : World} (h : LikeD g os ls (smQs g) w) : QIn w (.slice (some ⟨g + 6, 13, none⟩) 1 1) [sm1] := by
  refine ⟨[NLc], rfl, fun i q kv e1 e2 => ?_, ⟨_, 1, rfl, by decide, by decide, fun j u hu => ⟨g + 6, 13, rfl, ?_⟩⟩⟩
  · rcases i with _ | i
    · simp at e1 e2; subst e1 e2; exact KIn.none _ _ _ _ _ _
    · simp at e1
  · rw [cell_of_row w (g + 6) (13 + j) _ _ (0, 0) h.eqs]
    have hj : j < 13 := (List.getElem?_eq_some_iff.1 hu).1
    rcases j with _ | _ | _ | _ | _ | _ | _ | _ | _ | _ | _ | _ | _ | j
    all_goals first | exact hu | omega
set_option maxHeartbeats 8000000 in
theorem wrongC_3 (w : World) : Calls Try.prog 6 #[.int .i64 ((3 : Nat) : Int)] w fun e w' => e = .returned (.bool true) ∧ Hid (Ext w w') := by
  obtain ⟨Q, hQ⟩ : ∃ Q, Q = fun e w' => e = Ending.returned (.bool true) ∧ Hid (Ext w w') := ⟨_, rfl⟩
  rw [← hQ]
  have HQ := Lib.hid hQ
  obtain ⟨x, hx⟩ : ∃ x, x = wantC 3 := ⟨_, rfl⟩
  have HA : Hid (AskC 3 x) := Lib.hid (by rw [hx]; exact ask_allC ⟨3, by omega⟩)
  have HX := Lib.hid hx
  clear hQ hx
  go_enter Try.func6, Try.ntmps6
  go_upto_region 7 with (first | (go_at_call 14; refine (alive13_any _).mono ?_; rintro e w1 ⟨rfl, H1⟩) | (go_at_call 18; refine (smallC_any _).mono ?_; rintro e w2 ⟨g, rfl, H2⟩) | (go_at_call 19; refine (var13_any _ _).mono ?_; rintro e w3 ⟨rfl, rfl⟩) | fail)
  obtain ⟨wa, hwa⟩ : ∃ z, z = w2.alloc (.cells (smCA g) 26) := ⟨_, rfl⟩
  have hea : Ext w wa := by rw [hwa]; exact ((H1.out.alloc _).trans H2.out.1).alloc _
  have hba : BoxV w2.heap.size (smCA g).toList wa := by rw [hwa]; exact BoxV.of_row (heap_alloc_last w2 _)
  have hla : LikeD g smOs smLs (smQs g) wa := by rw [hwa]; exact (H2.out.2.2.ext ((Ext.refl w2).alloc _)).d
  have hsa : wa.heap.size = w2.heap.size + 1 := by rw [hwa]; simp
  have hta : wa.cell? ⟨w1.heap.size, 3, none⟩ = some (.int .i64 x) := by
    rw [HX.out, hwa]
    exact (H2.out.1.alloc _).cell (want_at _ _ _ (heap_alloc_last w1 _) ⟨3, by omega⟩)
  rw [← hwa]
  have hgX : g + 6 < w2.heap.size := (Array.getElem?_eq_some_iff.1 H2.out.2.2.eqs).1
  have hTg : w1.heap.size < g := by
    have := H2.out.2.1
    simp at this
    omega
  have hwT := H1.out.size
  generalize w2.heap.size = X at hba hsa hgX ⊢
  generalize w1.heap.size = T at hta hTg hwT ⊢
  obtain ⟨wb, hwb⟩ : ∃ z, z = (wa.alloc (.cells #[.int .i64 2, .int .i64 0, .int .i64 0, .int .i64 0, .string nX, NLc] 33)).alloc (.cells #[.int .i64 2, .int .i64 0, .int .i64 0, .int .i64 0, .string nX, .slice none 0 0] 33) := ⟨_, rfl⟩
  have hxab : Ext wa wb := by rw [hwb]; exact ((Ext.refl wa).alloc _).alloc _
  have hby : BoxV (X + 1 + 1) [.int .i64 2, .int .i64 0, .int .i64 0, .int .i64 0, .string nX, NLc] wb := by
    rw [hwb]
    refine BoxV.of_row (e := 33) (cs := #[.int .i64 2, .int .i64 0, .int .i64 0, .int .i64 0, .string nX, NLc]) ?_
    exact heap_alloc_at _ _ _ (by simp [hsa])
  rw [← hwb]
  have HE : Hid (Ext w wb) := Lib.hid (hea.trans hxab)
  have hbx := hba.ext hxab
  have hlk := hla.ext hxab
  have htab := hxab.cell hta
  have HW : Hid (∀ k ∈ [X, g + 1, g + 2, g + 6], w.heap.size ≤ k ∧ T ≠ k) := Lib.hid (fun k hk => by
    simp only [List.mem_cons, List.not_mem_nil, or_false] at hk
    rcases hk with rfl | rfl | rfl | rfl <;> omega)
  have HLK := Lib.hid hlk
  have HBX := Lib.hid hbx
  have HBY := Lib.hid hby
  have HT := Lib.hid htab
  have x0 := hbx.cells 0 _ rfl
  have x1 := hbx.cells 1 _ rfl
  have x2 := hbx.cells 2 _ rfl
  have x3 := hbx.cells 3 _ rfl
  have xl := hbx.lt
  have xf := hbx.fz
  have hl : BoxV (g + 2) (smLs).toList wb := BoxV.of_row hlk.locals
  have ll := hl.lt
  have lf := hl.fz
  have l1 := hl.cells 1 _ rfl
  clear hl
  have n1 : ¬ (X = g + 6) := by omega
  have n2 : ¬ (g + 6 = X) := by omega
  have n3 : ¬ (X = g + 2) := by omega
  have n4 : ¬ (g + 2 = X) := by omega
  have n5 : ¬ (X = g + 1) := by omega
  have n6 : ¬ (g + 1 = X) := by omega
  clear hwa hea hba hla hsa hta hwb hxab hby hlk hbx htab H1 H2 hwT
  have HKB : Hid (Kb [X, g + 1, g + 2, g + 6] wb (wb.setCell ⟨g + 2, 1, none⟩ (.int .i64 10))) := Lib.hid (Kb.set _ _ _ (by simp) _)
  go_upto_region 53 with (first | (go_at_call 20; refine (HA.out _ (smX4 g) (⟨(HLK.out.lset 1 (.int .i64 10)).insv, (HLK.out.lset 1 (.int .i64 10)).outsv, VRIn.oneC (HLK.out.lset 1 (.int .i64 10)).locals (EdIn.nil _), (HLK.out.lset 1 (.int .i64 10)).eqsv⟩)).mono ?_; rintro e3 w3 ⟨rfl, H3⟩) | fail)
  have hfin : Ext w w3 := (HKB.out.ext HE.out (fun k hk => (HW.out k hk).1)).trans H3.out
  have t3 := H3.out.cell (HKB.out.cell (S := [X, g + 1, g + 2, g + 6]) (fun hm => (HW.out T hm).2 rfl) HT.out)
  have tl := World.block_lt_of_cell? _ _ t3
  clear x0 x1 x2 x3 xl xf HKB H3 HA HLK HBX HBY HE HW l1 ll lf
  go_wp2_with (first | (refine region_drew (by kernel_rfl) (by kernel_rfl) ?_; (repeat (go_big_quiet_step (exact in_drew (num13_any _ _)))); refine wpQuiet_nil ?_; rintro _ ⟨nq, rfl⟩) | fail)
  rw [HQ.out]
  exact ⟨rfl, Lib.hid (by repeat first | exact Ext.refl _ | assumption | refine Ext.drew ?_ | refine Ext.drewN ?_ _ | refine Ext.extBy ?_ _ | refine Ext.alloc ?_ _ | refine Ext.setCell ?_ (by simp; try omega) _ | (refine Ext.trans ?_ (by assumption)))⟩
set_option maxHeartbeats 8000000 in
theorem wrongC_5 (w : World) : Calls Try.prog 6 #[.int .i64 ((5 : Nat) : Int)] w fun e w' => e = .returned (.bool true) ∧ Hid (Ext w w') := by
  obtain ⟨Q, hQ⟩ : ∃ Q, Q = fun e w' => e = Ending.returned (.bool true) ∧ Hid (Ext w w') := ⟨_, rfl⟩
  rw [← hQ]
  have HQ := Lib.hid hQ
  obtain ⟨x, hx⟩ : ∃ x, x = wantC 5 := ⟨_, rfl⟩
  have HA : Hid (AskC 5 x) := Lib.hid (by rw [hx]; exact ask_allC ⟨5, by omega⟩)
  have HX := Lib.hid hx
  clear hQ hx
  go_enter Try.func6, Try.ntmps6
  go_upto_region 7 with (first | (go_at_call 14; refine (alive13_any _).mono ?_; rintro e w1 ⟨rfl, H1⟩) | (go_at_call 18; refine (smallC_any _).mono ?_; rintro e w2 ⟨g, rfl, H2⟩) | (go_at_call 19; refine (var13_any _ _).mono ?_; rintro e w3 ⟨rfl, rfl⟩) | fail)
  obtain ⟨wa, hwa⟩ : ∃ z, z = w2.alloc (.cells (smCA g) 26) := ⟨_, rfl⟩
  have hea : Ext w wa := by rw [hwa]; exact ((H1.out.alloc _).trans H2.out.1).alloc _
  have hba : BoxV w2.heap.size (smCA g).toList wa := by rw [hwa]; exact BoxV.of_row (heap_alloc_last w2 _)
  have hla : LikeD g smOs smLs (smQs g) wa := by rw [hwa]; exact (H2.out.2.2.ext ((Ext.refl w2).alloc _)).d
  have hsa : wa.heap.size = w2.heap.size + 1 := by rw [hwa]; simp
  have hta : wa.cell? ⟨w1.heap.size, 5, none⟩ = some (.int .i64 x) := by
    rw [HX.out, hwa]
    exact (H2.out.1.alloc _).cell (want_at _ _ _ (heap_alloc_last w1 _) ⟨5, by omega⟩)
  rw [← hwa]
  have hgX : g + 6 < w2.heap.size := (Array.getElem?_eq_some_iff.1 H2.out.2.2.eqs).1
  have hTg : w1.heap.size < g := by
    have := H2.out.2.1
    simp at this
    omega
  have hwT := H1.out.size
  generalize w2.heap.size = X at hba hsa hgX ⊢
  generalize w1.heap.size = T at hta hTg hwT ⊢
  obtain ⟨wb, hwb⟩ : ∃ z, z = (wa.alloc (.cells #[.int .i64 2, .int .i64 0, .int .i64 0, .int .i64 0, .string nX, NLc] 33)).alloc (.cells #[.int .i64 2, .int .i64 0, .int .i64 0, .int .i64 0, .string nX, .slice none 0 0] 33) := ⟨_, rfl⟩
  have hxab : Ext wa wb := by rw [hwb]; exact ((Ext.refl wa).alloc _).alloc _
  have hby : BoxV (X + 1 + 1) [.int .i64 2, .int .i64 0, .int .i64 0, .int .i64 0, .string nX, NLc] wb := by
    rw [hwb]
    refine BoxV.of_row (e := 33) (cs := #[.int .i64 2, .int .i64 0, .int .i64 0, .int .i64 0, .string nX, NLc]) ?_
    exact heap_alloc_at _ _ _ (by simp [hsa])
  rw [← hwb]
  have HE : Hid (Ext w wb) := Lib.hid (hea.trans hxab)
  have hbx := hba.ext hxab
  have hlk := hla.ext hxab
  have htab := hxab.cell hta
  have HW : Hid (∀ k ∈ [X, g + 1, g + 2, g + 6], w.heap.size ≤ k ∧ T ≠ k) := Lib.hid (fun k hk => by
    simp only [List.mem_cons, List.not_mem_nil, or_false] at hk
    rcases hk with rfl | rfl | rfl | rfl <;> omega)
  have HLK := Lib.hid hlk
  have HBX := Lib.hid hbx
  have HBY := Lib.hid hby
  have HT := Lib.hid htab
  have x0 := hbx.cells 0 _ rfl
  have x1 := hbx.cells 1 _ rfl
  have x2 := hbx.cells 2 _ rfl
  have x3 := hbx.cells 3 _ rfl
  have xl := hbx.lt
  have xf := hbx.fz

  have n1 : ¬ (X = g + 6) := by omega
  have n2 : ¬ (g + 6 = X) := by omega
  have n3 : ¬ (X = g + 2) := by omega
  have n4 : ¬ (g + 2 = X) := by omega
  have n5 : ¬ (X = g + 1) := by omega
  have n6 : ¬ (g + 1 = X) := by omega
  clear hwa hea hba hla hsa hta hwb hxab hby hlk hbx htab H1 H2 hwT
  have HKB : Hid (Kb [X, g + 1, g + 2, g + 6] wb (wb.setCell ⟨X, 3, none⟩ (.slice (some ⟨g + 6, 13, none⟩) 1 1))) := Lib.hid (Kb.set _ _ _ (by simp) _)
  go_upto_region 53 with (first | (go_at_call 20; refine (HA.out _ ⟨.slice (some ⟨g, 0, none⟩) 2 2, .slice (some ⟨g + 1, 0, none⟩) 1 1, .slice (some ⟨g + 2, 0, none⟩) 1 1, .slice (some ⟨g + 6, 13, none⟩) 1 1⟩ (⟨(HLK.out.kb (Kb.set (S := [X]) wb X 3 (by simp) (.slice (some ⟨g + 6, 13, none⟩) 1 1)) (by simp; omega)).insv, (HLK.out.kb (Kb.set (S := [X]) wb X 3 (by simp) (.slice (some ⟨g + 6, 13, none⟩) 1 1)) (by simp; omega)).outsv, (HLK.out.kb (Kb.set (S := [X]) wb X 3 (by simp) (.slice (some ⟨g + 6, 13, none⟩) 1 1)) (by simp; omega)).localsv, (HLK.out.kb (Kb.set (S := [X]) wb X 3 (by simp) (.slice (some ⟨g + 6, 13, none⟩) 1 1)) (by simp; omega)).tail⟩)).mono ?_; rintro e3 w3 ⟨rfl, H3⟩) | fail)
  have hfin : Ext w w3 := (HKB.out.ext HE.out (fun k hk => (HW.out k hk).1)).trans H3.out
  have t3 := H3.out.cell (HKB.out.cell (S := [X, g + 1, g + 2, g + 6]) (fun hm => (HW.out T hm).2 rfl) HT.out)
  have tl := World.block_lt_of_cell? _ _ t3
  clear x0 x1 x2 x3 xl xf HKB H3 HA HLK HBX HBY HE HW
  go_wp2_with (first | (refine region_drew (by kernel_rfl) (by kernel_rfl) ?_; (repeat (go_big_quiet_step (exact in_drew (num13_any _ _)))); refine wpQuiet_nil ?_; rintro _ ⟨nq, rfl⟩) | fail)
  rw [HQ.out]
  exact ⟨rfl, Lib.hid (by repeat first | exact Ext.refl _ | assumption | refine Ext.drew ?_ | refine Ext.drewN ?_ _ | refine Ext.extBy ?_ _ | refine Ext.alloc ?_ _ | refine Ext.setCell ?_ (by simp; try omega) _ | (refine Ext.trans ?_ (by assumption)))⟩
set_option maxHeartbeats 8000000 in
theorem wrongC_12 (w : World) : Calls Try.prog 6 #[.int .i64 ((12 : Nat) : Int)] w fun e w' => e = .returned (.bool true) ∧ Hid (Ext w w') := by
  obtain ⟨Q, hQ⟩ : ∃ Q, Q = fun e w' => e = Ending.returned (.bool true) ∧ Hid (Ext w w') := ⟨_, rfl⟩
  rw [← hQ]
  have HQ := Lib.hid hQ
  obtain ⟨x, hx⟩ : ∃ x, x = wantC 12 := ⟨_, rfl⟩
  have HA : Hid (AskC 12 x) := Lib.hid (by rw [hx]; exact ask_allC ⟨12, by omega⟩)
  have HX := Lib.hid hx
  clear hQ hx
  go_enter Try.func6, Try.ntmps6
  go_upto_region 7 with (first | (go_at_call 14; refine (alive13_any _).mono ?_; rintro e w1 ⟨rfl, H1⟩) | (go_at_call 18; refine (smallC_any _).mono ?_; rintro e w2 ⟨g, rfl, H2⟩) | (go_at_call 19; refine (var13_any _ _).mono ?_; rintro e w3 ⟨rfl, rfl⟩) | fail)
  obtain ⟨wa, hwa⟩ : ∃ z, z = w2.alloc (.cells (smCA g) 26) := ⟨_, rfl⟩
  have hea : Ext w wa := by rw [hwa]; exact ((H1.out.alloc _).trans H2.out.1).alloc _
  have hba : BoxV w2.heap.size (smCA g).toList wa := by rw [hwa]; exact BoxV.of_row (heap_alloc_last w2 _)
  have hla : LikeD g smOs smLs (smQs g) wa := by rw [hwa]; exact (H2.out.2.2.ext ((Ext.refl w2).alloc _)).d
  have hsa : wa.heap.size = w2.heap.size + 1 := by rw [hwa]; simp
  have hta : wa.cell? ⟨w1.heap.size, 12, none⟩ = some (.int .i64 x) := by
    rw [HX.out, hwa]
    exact (H2.out.1.alloc _).cell (want_at _ _ _ (heap_alloc_last w1 _) ⟨12, by omega⟩)
  rw [← hwa]
  have hgX : g + 6 < w2.heap.size := (Array.getElem?_eq_some_iff.1 H2.out.2.2.eqs).1
  have hTg : w1.heap.size < g := by
    have := H2.out.2.1
    simp at this
    omega
  have hwT := H1.out.size
  generalize w2.heap.size = X at hba hsa hgX ⊢
  generalize w1.heap.size = T at hta hTg hwT ⊢
  obtain ⟨wb, hwb⟩ : ∃ z, z = (wa.alloc (.cells #[.int .i64 2, .int .i64 0, .int .i64 0, .int .i64 0, .string nX, NLc] 33)).alloc (.cells #[.int .i64 2, .int .i64 0, .int .i64 0, .int .i64 0, .string nX, .slice none 0 0] 33) := ⟨_, rfl⟩
  have hxab : Ext wa wb := by rw [hwb]; exact ((Ext.refl wa).alloc _).alloc _
  have hby : BoxV (X + 1 + 1) [.int .i64 2, .int .i64 0, .int .i64 0, .int .i64 0, .string nX, NLc] wb := by
    rw [hwb]
    refine BoxV.of_row (e := 33) (cs := #[.int .i64 2, .int .i64 0, .int .i64 0, .int .i64 0, .string nX, NLc]) ?_
    exact heap_alloc_at _ _ _ (by simp [hsa])
  rw [← hwb]
  have HE : Hid (Ext w wb) := Lib.hid (hea.trans hxab)
  have hbx := hba.ext hxab
  have hlk := hla.ext hxab
  have htab := hxab.cell hta
  have HW : Hid (∀ k ∈ [X, g + 1, g + 2, g + 6], w.heap.size ≤ k ∧ T ≠ k) := Lib.hid (fun k hk => by
    simp only [List.mem_cons, List.not_mem_nil, or_false] at hk
    rcases hk with rfl | rfl | rfl | rfl <;> omega)
  have HLK := Lib.hid hlk
  have HBX := Lib.hid hbx
  have HBY := Lib.hid hby
  have HT := Lib.hid htab
  have x0 := hbx.cells 0 _ rfl
  have x1 := hbx.cells 1 _ rfl
  have x2 := hbx.cells 2 _ rfl
  have x3 := hbx.cells 3 _ rfl
  have xl := hbx.lt
  have xf := hbx.fz
  have ho : BoxV (g + 1) (smOs).toList wb := BoxV.of_row hlk.outs
  have ol := ho.lt
  have of := ho.fz
  have o2 := ho.cells 2 _ rfl
  clear ho
  have n1 : ¬ (X = g + 6) := by omega
  have n2 : ¬ (g + 6 = X) := by omega
  have n3 : ¬ (X = g + 2) := by omega
  have n4 : ¬ (g + 2 = X) := by omega
  have n5 : ¬ (X = g + 1) := by omega
  have n6 : ¬ (g + 1 = X) := by omega
  clear hwa hea hba hla hsa hta hwb hxab hby hlk hbx htab H1 H2 hwT
  have HKB : Hid (Kb [X, g + 1, g + 2, g + 6] wb ((wb.setCell ⟨g + 1, 2, none⟩ (.slice (some ⟨wb.heap.size, 0, none⟩) 1 1)).alloc (.cells #[.string nR, .bool true] 51))) := Lib.hid ((Kb.set _ _ _ (by simp) _).trans (Kb.of_ext ((Ext.refl _).alloc _)))
  have HL6 := Lib.hid ((HLK.out.oset 2 (.slice (some ⟨wb.heap.size, 0, none⟩) 1 1)).ext ((Ext.refl _).alloc (.cells #[.string nR, .bool true] 51)))
  have hed : EdIn ((wb.setCell ⟨g + 1, 2, none⟩ (.slice (some ⟨wb.heap.size, 0, none⟩) 1 1)).alloc (.cells #[.string nR, .bool true] 51)) (.slice (some ⟨wb.heap.size, 0, none⟩) 1 1) [(nR, true)] := edIn_one (heap_alloc_at _ _ _ (by simp))
  have HS6 : Hid (CPIn ((wb.setCell ⟨g + 1, 2, none⟩ (.slice (some ⟨wb.heap.size, 0, none⟩) 1 1)).alloc (.cells #[.string nR, .bool true] 51)) (wrongC 12) (smX4 g)) := Lib.hid ⟨HL6.out.insv, VRIn.oneC HL6.out.outs hed, HL6.out.localsv, HL6.out.eqsv⟩
  clear HL6 hed
  go_upto_region 53 with (first | (go_at_call 20; refine (HA.out _ (smX4 g) (HS6.out)).mono ?_; rintro e3 w3 ⟨rfl, H3⟩) | fail)
  have hfin : Ext w w3 := (HKB.out.ext HE.out (fun k hk => (HW.out k hk).1)).trans H3.out
  have t3 := H3.out.cell (HKB.out.cell (S := [X, g + 1, g + 2, g + 6]) (fun hm => (HW.out T hm).2 rfl) HT.out)
  have tl := World.block_lt_of_cell? _ _ t3
  clear x0 x1 x2 x3 xl xf HKB H3 HA HLK HBX HBY HE HW o2 ol of
  go_wp2_with (first | (refine region_drew (by kernel_rfl) (by kernel_rfl) ?_; (repeat (go_big_quiet_step (exact in_drew (num13_any _ _)))); refine wpQuiet_nil ?_; rintro _ ⟨nq, rfl⟩) | fail)
  rw [HQ.out]
  exact ⟨rfl, Lib.hid (by repeat first | exact Ext.refl _ | assumption | refine Ext.drew ?_ | refine Ext.drewN ?_ _ | refine Ext.extBy ?_ _ | refine Ext.alloc ?_ _ | refine Ext.setCell ?_ (by simp; try omega) _ | (refine Ext.trans ?_ (by assumption)))⟩
set_option maxHeartbeats 8000000 in
theorem wrongC_13 (w : World) : Calls Try.prog 6 #[.int .i64 ((13 : Nat) : Int)] w fun e w' => e = .returned (.bool true) ∧ Hid (Ext w w') := by
  obtain ⟨Q, hQ⟩ : ∃ Q, Q = fun e w' => e = Ending.returned (.bool true) ∧ Hid (Ext w w') := ⟨_, rfl⟩
  rw [← hQ]
  have HQ := Lib.hid hQ
  obtain ⟨x, hx⟩ : ∃ x, x = wantC 13 := ⟨_, rfl⟩
  have HA : Hid (AskC 13 x) := Lib.hid (by rw [hx]; exact ask_allC ⟨13, by omega⟩)
  have HX := Lib.hid hx
  clear hQ hx
  go_enter Try.func6, Try.ntmps6
  go_upto_region 7 with (first | (go_at_call 14; refine (alive13_any _).mono ?_; rintro e w1 ⟨rfl, H1⟩) | (go_at_call 18; refine (smallC_any _).mono ?_; rintro e w2 ⟨g, rfl, H2⟩) | (go_at_call 19; refine (var13_any _ _).mono ?_; rintro e w3 ⟨rfl, rfl⟩) | fail)
  obtain ⟨wa, hwa⟩ : ∃ z, z = w2.alloc (.cells (smCA g) 26) := ⟨_, rfl⟩
  have hea : Ext w wa := by rw [hwa]; exact ((H1.out.alloc _).trans H2.out.1).alloc _
  have hba : BoxV w2.heap.size (smCA g).toList wa := by rw [hwa]; exact BoxV.of_row (heap_alloc_last w2 _)
  have hla : LikeD g smOs smLs (smQs g) wa := by rw [hwa]; exact (H2.out.2.2.ext ((Ext.refl w2).alloc _)).d
  have hsa : wa.heap.size = w2.heap.size + 1 := by rw [hwa]; simp
  have hta : wa.cell? ⟨w1.heap.size, 13, none⟩ = some (.int .i64 x) := by
    rw [HX.out, hwa]
    exact (H2.out.1.alloc _).cell (want_at _ _ _ (heap_alloc_last w1 _) ⟨13, by omega⟩)
  rw [← hwa]
  have hgX : g + 6 < w2.heap.size := (Array.getElem?_eq_some_iff.1 H2.out.2.2.eqs).1
  have hTg : w1.heap.size < g := by
    have := H2.out.2.1
    simp at this
    omega
  have hwT := H1.out.size
  generalize w2.heap.size = X at hba hsa hgX ⊢
  generalize w1.heap.size = T at hta hTg hwT ⊢
  obtain ⟨wb, hwb⟩ : ∃ z, z = (wa.alloc (.cells #[.int .i64 2, .int .i64 0, .int .i64 0, .int .i64 0, .string nX, NLc] 33)).alloc (.cells #[.int .i64 2, .int .i64 0, .int .i64 0, .int .i64 0, .string nX, .slice none 0 0] 33) := ⟨_, rfl⟩
  have hxab : Ext wa wb := by rw [hwb]; exact ((Ext.refl wa).alloc _).alloc _
  have hby : BoxV (X + 1 + 1) [.int .i64 2, .int .i64 0, .int .i64 0, .int .i64 0, .string nX, NLc] wb := by
    rw [hwb]
    refine BoxV.of_row (e := 33) (cs := #[.int .i64 2, .int .i64 0, .int .i64 0, .int .i64 0, .string nX, NLc]) ?_
    exact heap_alloc_at _ _ _ (by simp [hsa])
  rw [← hwb]
  have HE : Hid (Ext w wb) := Lib.hid (hea.trans hxab)
  have hbx := hba.ext hxab
  have hlk := hla.ext hxab
  have htab := hxab.cell hta
  have HW : Hid (∀ k ∈ [X, g + 1, g + 2, g + 6], w.heap.size ≤ k ∧ T ≠ k) := Lib.hid (fun k hk => by
    simp only [List.mem_cons, List.not_mem_nil, or_false] at hk
    rcases hk with rfl | rfl | rfl | rfl <;> omega)
  have HLK := Lib.hid hlk
  have HBX := Lib.hid hbx
  have HBY := Lib.hid hby
  have HT := Lib.hid htab
  have x0 := hbx.cells 0 _ rfl
  have x1 := hbx.cells 1 _ rfl
  have x2 := hbx.cells 2 _ rfl
  have x3 := hbx.cells 3 _ rfl
  have xl := hbx.lt
  have xf := hbx.fz
  have hl : BoxV (g + 2) (smLs).toList wb := BoxV.of_row hlk.locals
  have ll := hl.lt
  have lf := hl.fz
  have l2 := hl.cells 2 _ rfl
  clear hl
  have n1 : ¬ (X = g + 6) := by omega
  have n2 : ¬ (g + 6 = X) := by omega
  have n3 : ¬ (X = g + 2) := by omega
  have n4 : ¬ (g + 2 = X) := by omega
  have n5 : ¬ (X = g + 1) := by omega
  have n6 : ¬ (g + 1 = X) := by omega
  clear hwa hea hba hla hsa hta hwb hxab hby hlk hbx htab H1 H2 hwT
  have HKB : Hid (Kb [X, g + 1, g + 2, g + 6] wb ((wb.setCell ⟨g + 2, 2, none⟩ (.slice (some ⟨wb.heap.size, 0, none⟩) 1 1)).alloc (.cells #[.string nR, .bool true] 51))) := Lib.hid ((Kb.set _ _ _ (by simp) _).trans (Kb.of_ext ((Ext.refl _).alloc _)))
  have HL6 := Lib.hid ((HLK.out.lset 2 (.slice (some ⟨wb.heap.size, 0, none⟩) 1 1)).ext ((Ext.refl _).alloc (.cells #[.string nR, .bool true] 51)))
  have hed : EdIn ((wb.setCell ⟨g + 2, 2, none⟩ (.slice (some ⟨wb.heap.size, 0, none⟩) 1 1)).alloc (.cells #[.string nR, .bool true] 51)) (.slice (some ⟨wb.heap.size, 0, none⟩) 1 1) [(nR, true)] := edIn_one (heap_alloc_at _ _ _ (by simp))
  have HS6 : Hid (CPIn ((wb.setCell ⟨g + 2, 2, none⟩ (.slice (some ⟨wb.heap.size, 0, none⟩) 1 1)).alloc (.cells #[.string nR, .bool true] 51)) (wrongC 13) (smX4 g)) := Lib.hid ⟨HL6.out.insv, HL6.out.outsv, VRIn.oneC HL6.out.locals hed, HL6.out.eqsv⟩
  clear HL6 hed
  go_upto_region 53 with (first | (go_at_call 20; refine (HA.out _ (smX4 g) (HS6.out)).mono ?_; rintro e3 w3 ⟨rfl, H3⟩) | fail)
  have hfin : Ext w w3 := (HKB.out.ext HE.out (fun k hk => (HW.out k hk).1)).trans H3.out
  have t3 := H3.out.cell (HKB.out.cell (S := [X, g + 1, g + 2, g + 6]) (fun hm => (HW.out T hm).2 rfl) HT.out)
  have tl := World.block_lt_of_cell? _ _ t3
  clear x0 x1 x2 x3 xl xf HKB H3 HA HLK HBX HBY HE HW l2 ll lf
  go_wp2_with (first | (refine region_drew (by kernel_rfl) (by kernel_rfl) ?_; (repeat (go_big_quiet_step (exact in_drew (num13_any _ _)))); refine wpQuiet_nil ?_; rintro _ ⟨nq, rfl⟩) | fail)
  rw [HQ.out]
  exact ⟨rfl, Lib.hid (by repeat first | exact Ext.refl _ | assumption | refine Ext.drew ?_ | refine Ext.drewN ?_ _ | refine Ext.extBy ?_ _ | refine Ext.alloc ?_ _ | refine Ext.setCell ?_ (by simp; try omega) _ | (refine Ext.trans ?_ (by assumption)))⟩
set_option maxHeartbeats 8000000 in
theorem wrongC_21 (w : World) : Calls Try.prog 6 #[.int .i64 ((21 : Nat) : Int)] w fun e w' => e = .returned (.bool true) ∧ Hid (Ext w w') := by
  obtain ⟨Q, hQ⟩ : ∃ Q, Q = fun e w' => e = Ending.returned (.bool true) ∧ Hid (Ext w w') := ⟨_, rfl⟩
  rw [← hQ]
  have HQ := Lib.hid hQ
  obtain ⟨x, hx⟩ : ∃ x, x = wantC 21 := ⟨_, rfl⟩
  have HA : Hid (AskC 21 x) := Lib.hid (by rw [hx]; exact ask_allC ⟨21, by omega⟩)
  have HX := Lib.hid hx
  clear hQ hx
  go_enter Try.func6, Try.ntmps6
  go_upto_region 7 with (first | (go_at_call 14; refine (alive13_any _).mono ?_; rintro e w1 ⟨rfl, H1⟩) | (go_at_call 18; refine (smallC_any _).mono ?_; rintro e w2 ⟨g, rfl, H2⟩) | (go_at_call 19; refine (var13_any _ _).mono ?_; rintro e w3 ⟨rfl, rfl⟩) | fail)
  obtain ⟨wa, hwa⟩ : ∃ z, z = w2.alloc (.cells (smCA g) 26) := ⟨_, rfl⟩
  have hea : Ext w wa := by rw [hwa]; exact ((H1.out.alloc _).trans H2.out.1).alloc _
  have hba : BoxV w2.heap.size (smCA g).toList wa := by rw [hwa]; exact BoxV.of_row (heap_alloc_last w2 _)
  have hla : LikeD g smOs smLs (smQs g) wa := by rw [hwa]; exact (H2.out.2.2.ext ((Ext.refl w2).alloc _)).d
  have hsa : wa.heap.size = w2.heap.size + 1 := by rw [hwa]; simp
  have hta : wa.cell? ⟨w1.heap.size, 21, none⟩ = some (.int .i64 x) := by
    rw [HX.out, hwa]
    exact (H2.out.1.alloc _).cell (want_at _ _ _ (heap_alloc_last w1 _) ⟨21, by omega⟩)
  rw [← hwa]
  have hgX : g + 6 < w2.heap.size := (Array.getElem?_eq_some_iff.1 H2.out.2.2.eqs).1
  have hTg : w1.heap.size < g := by
    have := H2.out.2.1
    simp at this
    omega
  have hwT := H1.out.size
  generalize w2.heap.size = X at hba hsa hgX ⊢
  generalize w1.heap.size = T at hta hTg hwT ⊢
  obtain ⟨wb, hwb⟩ : ∃ z, z = (wa.alloc (.cells #[.int .i64 2, .int .i64 0, .int .i64 0, .int .i64 0, .string nX, NLc] 33)).alloc (.cells #[.int .i64 2, .int .i64 0, .int .i64 0, .int .i64 0, .string nX, .slice none 0 0] 33) := ⟨_, rfl⟩
  have hxab : Ext wa wb := by rw [hwb]; exact ((Ext.refl wa).alloc _).alloc _
  have hby : BoxV (X + 1 + 1) [.int .i64 2, .int .i64 0, .int .i64 0, .int .i64 0, .string nX, NLc] wb := by
    rw [hwb]
    refine BoxV.of_row (e := 33) (cs := #[.int .i64 2, .int .i64 0, .int .i64 0, .int .i64 0, .string nX, NLc]) ?_
    exact heap_alloc_at _ _ _ (by simp [hsa])
  rw [← hwb]
  have HE : Hid (Ext w wb) := Lib.hid (hea.trans hxab)
  have hbx := hba.ext hxab
  have hlk := hla.ext hxab
  have htab := hxab.cell hta
  have HW : Hid (∀ k ∈ [X, g + 1, g + 2, g + 6], w.heap.size ≤ k ∧ T ≠ k) := Lib.hid (fun k hk => by
    simp only [List.mem_cons, List.not_mem_nil, or_false] at hk
    rcases hk with rfl | rfl | rfl | rfl <;> omega)
  have HLK := Lib.hid hlk
  have HBX := Lib.hid hbx
  have HBY := Lib.hid hby
  have HT := Lib.hid htab
  have x0 := hbx.cells 0 _ rfl
  have x1 := hbx.cells 1 _ rfl
  have x2 := hbx.cells 2 _ rfl
  have x3 := hbx.cells 3 _ rfl
  have xl := hbx.lt
  have xf := hbx.fz
  have hl : BoxV (g + 2) (smLs).toList wb := BoxV.of_row hlk.locals
  have ll := hl.lt
  have lf := hl.fz
  have l2 := hl.cells 2 _ rfl
  clear hl
  have n1 : ¬ (X = g + 6) := by omega
  have n2 : ¬ (g + 6 = X) := by omega
  have n3 : ¬ (X = g + 2) := by omega
  have n4 : ¬ (g + 2 = X) := by omega
  have n5 : ¬ (X = g + 1) := by omega
  have n6 : ¬ (g + 1 = X) := by omega
  clear hwa hea hba hla hsa hta hwb hxab hby hlk hbx htab H1 H2 hwT
  have HKB : Hid (Kb [X, g + 1, g + 2, g + 6] wb ((wb.setCell ⟨g + 2, 2, none⟩ (.slice (some ⟨wb.heap.size, 0, none⟩) 1 1)).alloc (.cells #[.string nQ, .bool true] 51))) := Lib.hid ((Kb.set _ _ _ (by simp) _).trans (Kb.of_ext ((Ext.refl _).alloc _)))
  have HL6 := Lib.hid ((HLK.out.lset 2 (.slice (some ⟨wb.heap.size, 0, none⟩) 1 1)).ext ((Ext.refl _).alloc (.cells #[.string nQ, .bool true] 51)))
  have hed : EdIn ((wb.setCell ⟨g + 2, 2, none⟩ (.slice (some ⟨wb.heap.size, 0, none⟩) 1 1)).alloc (.cells #[.string nQ, .bool true] 51)) (.slice (some ⟨wb.heap.size, 0, none⟩) 1 1) [(nQ, true)] := edIn_one (heap_alloc_at _ _ _ (by simp))
  have HS6 : Hid (CPIn ((wb.setCell ⟨g + 2, 2, none⟩ (.slice (some ⟨wb.heap.size, 0, none⟩) 1 1)).alloc (.cells #[.string nQ, .bool true] 51)) (wrongC 21) (smX4 g)) := Lib.hid ⟨HL6.out.insv, HL6.out.outsv, VRIn.oneC HL6.out.locals hed, HL6.out.eqsv⟩
  clear HL6 hed
  go_upto_region 53 with (first | (go_at_call 20; refine (HA.out _ (smX4 g) (HS6.out)).mono ?_; rintro e3 w3 ⟨rfl, H3⟩) | fail)
  have hfin : Ext w w3 := (HKB.out.ext HE.out (fun k hk => (HW.out k hk).1)).trans H3.out
  have t3 := H3.out.cell (HKB.out.cell (S := [X, g + 1, g + 2, g + 6]) (fun hm => (HW.out T hm).2 rfl) HT.out)
  have tl := World.block_lt_of_cell? _ _ t3
  clear x0 x1 x2 x3 xl xf HKB H3 HA HLK HBX HBY HE HW l2 ll lf
  go_wp2_with (first | (refine region_drew (by kernel_rfl) (by kernel_rfl) ?_; (repeat (go_big_quiet_step (exact in_drew (num13_any _ _)))); refine wpQuiet_nil ?_; rintro _ ⟨nq, rfl⟩) | fail)
  rw [HQ.out]
  exact ⟨rfl, Lib.hid (by repeat first | exact Ext.refl _ | assumption | refine Ext.drew ?_ | refine Ext.drewN ?_ _ | refine Ext.extBy ?_ _ | refine Ext.alloc ?_ _ | refine Ext.setCell ?_ (by simp; try omega) _ | (refine Ext.trans ?_ (by assumption)))⟩
end Go.Proofs.Ytmommjagndadjaa
namespace Go.Proofs.Ytmommjagndadjaa
open Go.RowKit Go.Maps
set_option linter.unusedSimpArgs false
set_option linter.unusedVariables false
set_option maxRecDepth 100000

set_option maxHeartbeats 8000000 in
theorem wrongC_14 (w : World) : Calls Try.prog 6 #[.int .i64 ((14 : Nat) : Int)] w fun e w' => e = .returned (.bool true) ∧ Hid (Ext w w') := by
  obtain ⟨Q, hQ⟩ : ∃ Q, Q = fun e w' => e = Ending.returned (.bool true) ∧ Hid (Ext w w') := ⟨_, rfl⟩
  rw [← hQ]
  have HQ := Lib.hid hQ
  obtain ⟨x, hx⟩ : ∃ x, x = wantC 14 := ⟨_, rfl⟩
  have HA : Hid (AskC 14 x) := Lib.hid (by rw [hx]; exact ask_allC ⟨14, by omega⟩)
  have HX := Lib.hid hx
  clear hQ hx
  go_enter Try.func6, Try.ntmps6
  go_upto_region 7 with (first | (go_at_call 14; refine (alive13_any _).mono ?_; rintro e w1 ⟨rfl, H1⟩) | (go_at_call 18; refine (smallC_any _).mono ?_; rintro e w2 ⟨g, rfl, H2⟩) | (go_at_call 19; refine (var13_any _ _).mono ?_; rintro e w3 ⟨rfl, rfl⟩) | fail)
  obtain ⟨wa, hwa⟩ : ∃ z, z = w2.alloc (.cells (smCA g) 26) := ⟨_, rfl⟩
  have hea : Ext w wa := by rw [hwa]; exact ((H1.out.alloc _).trans H2.out.1).alloc _
  have hba : BoxV w2.heap.size (smCA g).toList wa := by rw [hwa]; exact BoxV.of_row (heap_alloc_last w2 _)
  have hla : LikeD g smOs smLs (smQs g) wa := by rw [hwa]; exact (H2.out.2.2.ext ((Ext.refl w2).alloc _)).d
  have hsa : wa.heap.size = w2.heap.size + 1 := by rw [hwa]; simp
  have hta : wa.cell? ⟨w1.heap.size, 14, none⟩ = some (.int .i64 x) := by
    rw [HX.out, hwa]
    exact (H2.out.1.alloc _).cell (want_at _ _ _ (heap_alloc_last w1 _) ⟨14, by omega⟩)
  rw [← hwa]
  have hgX : g + 6 < w2.heap.size := (Array.getElem?_eq_some_iff.1 H2.out.2.2.eqs).1
  have hTg : w1.heap.size < g := by
    have := H2.out.2.1
    simp at this
    omega
  have hwT := H1.out.size
  generalize w2.heap.size = X at hba hsa hgX ⊢
  generalize w1.heap.size = T at hta hTg hwT ⊢
  obtain ⟨wb, hwb⟩ : ∃ z, z = (wa.alloc (.cells #[.int .i64 2, .int .i64 0, .int .i64 0, .int .i64 0, .string nX, NLc] 33)).alloc (.cells #[.int .i64 2, .int .i64 0, .int .i64 0, .int .i64 0, .string nX, .slice none 0 0] 33) := ⟨_, rfl⟩
  have hxab : Ext wa wb := by rw [hwb]; exact ((Ext.refl wa).alloc _).alloc _
  have hby : BoxV (X + 1 + 1) [.int .i64 2, .int .i64 0, .int .i64 0, .int .i64 0, .string nX, NLc] wb := by
    rw [hwb]
    refine BoxV.of_row (e := 33) (cs := #[.int .i64 2, .int .i64 0, .int .i64 0, .int .i64 0, .string nX, NLc]) ?_
    exact heap_alloc_at _ _ _ (by simp [hsa])
  rw [← hwb]
  have HE : Hid (Ext w wb) := Lib.hid (hea.trans hxab)
  have hbx := hba.ext hxab
  have hlk := hla.ext hxab
  have htab := hxab.cell hta
  have HW : Hid (∀ k ∈ [X, g + 1, g + 2, g + 6], w.heap.size ≤ k ∧ T ≠ k) := Lib.hid (fun k hk => by
    simp only [List.mem_cons, List.not_mem_nil, or_false] at hk
    rcases hk with rfl | rfl | rfl | rfl <;> omega)
  have HLK := Lib.hid hlk
  have HBX := Lib.hid hbx
  have HBY := Lib.hid hby
  have HT := Lib.hid htab
  have x0 := hbx.cells 0 _ rfl
  have x1 := hbx.cells 1 _ rfl
  have x2 := hbx.cells 2 _ rfl
  have x3 := hbx.cells 3 _ rfl
  have xl := hbx.lt
  have xf := hbx.fz
  have hb : BoxV (g + 6) (smQs g).toList wb := BoxV.of_row hlk.eqs
  have bl := hb.lt
  have bf := hb.fz
  have b0 := hb.cells 0 _ rfl
  have b1 := hb.cells 1 _ rfl
  have b2 := hb.cells 2 _ rfl
  have b3 := hb.cells 3 _ rfl
  have b4 := hb.cells 4 _ rfl
  have b5 := hb.cells 5 _ rfl
  have b6 := hb.cells 6 _ rfl
  have b7 := hb.cells 7 _ rfl
  have b8 := hb.cells 8 _ rfl
  have b9 := hb.cells 9 _ rfl
  have b10 := hb.cells 10 _ rfl
  have b11 := hb.cells 11 _ rfl
  have b12 := hb.cells 12 _ rfl
  clear hb
  have n1 : ¬ (X = g + 6) := by omega
  have n2 : ¬ (g + 6 = X) := by omega
  have n3 : ¬ (X = g + 2) := by omega
  have n4 : ¬ (g + 2 = X) := by omega
  have n5 : ¬ (X = g + 1) := by omega
  have n6 : ¬ (g + 1 = X) := by omega
  clear hwa hea hba hla hsa hta hwb hxab hby hlk hbx htab H1 H2 hwT
  have HKB : Hid (Kb [X, g + 1, g + 2, g + 6] wb (((((((wb.setCell ⟨g + 6, 2, none⟩ (.int .i64 9)).setCell ⟨g + 6, 3, none⟩ (.int .i64 0)).setCell ⟨g + 6, 4, none⟩ (.int .i64 0)).setCell ⟨g + 6, 5, none⟩ (.int .i64 1)).setCell ⟨g + 6, 6, none⟩ (.string nR)).setCell ⟨g + 6, 7, none⟩ (.slice (some ⟨wb.heap.size, 0, none⟩) 1 1)).alloc (.cells #[.int .i64 2, .int .i64 0, .int .i64 0, .int .i64 0, .string nX, NLc] 33))) := Lib.hid (((((((Kb.set _ _ _ (by simp) _).trans (Kb.set _ _ _ (by simp) _)).trans (Kb.set _ _ _ (by simp) _)).trans (Kb.set _ _ _ (by simp) _)).trans (Kb.set _ _ _ (by simp) _)).trans (Kb.set _ _ _ (by simp) _)).trans (Kb.of_ext ((Ext.refl _).alloc _)))
  have y0 := HBY.out.cells 0 _ rfl
  have y1 := HBY.out.cells 1 _ rfl
  have y2 := HBY.out.cells 2 _ rfl
  have y3 := HBY.out.cells 3 _ rfl
  have y4 := HBY.out.cells 4 _ rfl
  have y5 := HBY.out.cells 5 _ rfl
  have yl := HBY.out.lt
  have HL6 := Lib.hid (((((((HLK.out.qset 2 (.int .i64 9)).qset 3 (.int .i64 0)).qset 4 (.int .i64 0)).qset 5 (.int .i64 1)).qset 6 (.string nR)).qset 7 (.slice (some ⟨wb.heap.size, 0, none⟩) 1 1)).ext ((Ext.refl _).alloc (.cells #[.int .i64 2, .int .i64 0, .int .i64 0, .int .i64 0, .string nX, NLc] 33)))
  have hkn : KIn (((((((wb.setCell ⟨g + 6, 2, none⟩ (.int .i64 9)).setCell ⟨g + 6, 3, none⟩ (.int .i64 0)).setCell ⟨g + 6, 4, none⟩ (.int .i64 0)).setCell ⟨g + 6, 5, none⟩ (.int .i64 1)).setCell ⟨g + 6, 6, none⟩ (.string nR)).setCell ⟨g + 6, 7, none⟩ (.slice (some ⟨wb.heap.size, 0, none⟩) 1 1)).alloc (.cells #[.int .i64 2, .int .i64 0, .int .i64 0, .int .i64 0, .string nX, NLc] 33)) wrE (.slice (some ⟨wb.heap.size, 0, none⟩) 1 1) := kin_when _ _ _ _ _ (heap_alloc_at _ _ _ (by simp))
  have HS6 : Hid (CPIn (((((((wb.setCell ⟨g + 6, 2, none⟩ (.int .i64 9)).setCell ⟨g + 6, 3, none⟩ (.int .i64 0)).setCell ⟨g + 6, 4, none⟩ (.int .i64 0)).setCell ⟨g + 6, 5, none⟩ (.int .i64 1)).setCell ⟨g + 6, 6, none⟩ (.string nR)).setCell ⟨g + 6, 7, none⟩ (.slice (some ⟨wb.heap.size, 0, none⟩) 1 1)).alloc (.cells #[.int .i64 2, .int .i64 0, .int .i64 0, .int .i64 0, .string nX, NLc] 33)) (wrongC 14) (smX4 g)) := Lib.hid (HL6.out.cp (q0 := defE nY wrE) (q1 := sm1) hkn (KIn.none _ _ _ _ _ _) (by kernel_rfl))
  clear HL6 hkn
  go_upto_region 53 with (first | (go_at_call 20; refine (HA.out _ (smX4 g) (HS6.out)).mono ?_; rintro e3 w3 ⟨rfl, H3⟩) | fail)
  have hfin : Ext w w3 := (HKB.out.ext HE.out (fun k hk => (HW.out k hk).1)).trans H3.out
  have t3 := H3.out.cell (HKB.out.cell (S := [X, g + 1, g + 2, g + 6]) (fun hm => (HW.out T hm).2 rfl) HT.out)
  have tl := World.block_lt_of_cell? _ _ t3
  clear x0 x1 x2 x3 xl xf HKB H3 HA HLK HBX HBY HE HW b0 b1 b2 b3 b4 b5 b6 b7 b8 b9 b10 b11 b12 bl bf y0 y1 y2 y3 y4 y5 yl
  go_wp2_with (first | (refine region_drew (by kernel_rfl) (by kernel_rfl) ?_; (repeat (go_big_quiet_step (exact in_drew (num13_any _ _)))); refine wpQuiet_nil ?_; rintro _ ⟨nq, rfl⟩) | fail)
  rw [HQ.out]
  exact ⟨rfl, Lib.hid (by repeat first | exact Ext.refl _ | assumption | refine Ext.drew ?_ | refine Ext.drewN ?_ _ | refine Ext.extBy ?_ _ | refine Ext.alloc ?_ _ | refine Ext.setCell ?_ (by simp; try omega) _ | (refine Ext.trans ?_ (by assumption)))⟩
set_option maxHeartbeats 8000000 in
theorem wrongC_18 (w : World) : Calls Try.prog 6 #[.int .i64 ((18 : Nat) : Int)] w fun e w' => e = .returned (.bool true) ∧ Hid (Ext w w') := by
  obtain ⟨Q, hQ⟩ : ∃ Q, Q = fun e w' => e = Ending.returned (.bool true) ∧ Hid (Ext w w') := ⟨_, rfl⟩
  rw [← hQ]
  have HQ := Lib.hid hQ
  obtain ⟨x, hx⟩ : ∃ x, x = wantC 18 := ⟨_, rfl⟩
  have HA : Hid (AskC 18 x) := Lib.hid (by rw [hx]; exact ask_allC ⟨18, by omega⟩)
  have HX := Lib.hid hx
  clear hQ hx
  go_enter Try.func6, Try.ntmps6
  go_upto_region 7 with (first | (go_at_call 14; refine (alive13_any _).mono ?_; rintro e w1 ⟨rfl, H1⟩) | (go_at_call 18; refine (smallC_any _).mono ?_; rintro e w2 ⟨g, rfl, H2⟩) | (go_at_call 19; refine (var13_any _ _).mono ?_; rintro e w3 ⟨rfl, rfl⟩) | fail)
  obtain ⟨wa, hwa⟩ : ∃ z, z = w2.alloc (.cells (smCA g) 26) := ⟨_, rfl⟩
  have hea : Ext w wa := by rw [hwa]; exact ((H1.out.alloc _).trans H2.out.1).alloc _
  have hba : BoxV w2.heap.size (smCA g).toList wa := by rw [hwa]; exact BoxV.of_row (heap_alloc_last w2 _)
  have hla : LikeD g smOs smLs (smQs g) wa := by rw [hwa]; exact (H2.out.2.2.ext ((Ext.refl w2).alloc _)).d
  have hsa : wa.heap.size = w2.heap.size + 1 := by rw [hwa]; simp
  have hta : wa.cell? ⟨w1.heap.size, 18, none⟩ = some (.int .i64 x) := by
    rw [HX.out, hwa]
    exact (H2.out.1.alloc _).cell (want_at _ _ _ (heap_alloc_last w1 _) ⟨18, by omega⟩)
  rw [← hwa]
  have hgX : g + 6 < w2.heap.size := (Array.getElem?_eq_some_iff.1 H2.out.2.2.eqs).1
  have hTg : w1.heap.size < g := by
    have := H2.out.2.1
    simp at this
    omega
  have hwT := H1.out.size
  generalize w2.heap.size = X at hba hsa hgX ⊢
  generalize w1.heap.size = T at hta hTg hwT ⊢
  obtain ⟨wb, hwb⟩ : ∃ z, z = (wa.alloc (.cells #[.int .i64 2, .int .i64 0, .int .i64 0, .int .i64 0, .string nX, NLc] 33)).alloc (.cells #[.int .i64 2, .int .i64 0, .int .i64 0, .int .i64 0, .string nX, .slice none 0 0] 33) := ⟨_, rfl⟩
  have hxab : Ext wa wb := by rw [hwb]; exact ((Ext.refl wa).alloc _).alloc _
  have hby : BoxV (X + 1 + 1) [.int .i64 2, .int .i64 0, .int .i64 0, .int .i64 0, .string nX, NLc] wb := by
    rw [hwb]
    refine BoxV.of_row (e := 33) (cs := #[.int .i64 2, .int .i64 0, .int .i64 0, .int .i64 0, .string nX, NLc]) ?_
    exact heap_alloc_at _ _ _ (by simp [hsa])
  rw [← hwb]
  have HE : Hid (Ext w wb) := Lib.hid (hea.trans hxab)
  have hbx := hba.ext hxab
  have hlk := hla.ext hxab
  have htab := hxab.cell hta
  have HW : Hid (∀ k ∈ [X, g + 1, g + 2, g + 6], w.heap.size ≤ k ∧ T ≠ k) := Lib.hid (fun k hk => by
    simp only [List.mem_cons, List.not_mem_nil, or_false] at hk
    rcases hk with rfl | rfl | rfl | rfl <;> omega)
  have HLK := Lib.hid hlk
  have HBX := Lib.hid hbx
  have HBY := Lib.hid hby
  have HT := Lib.hid htab
  have x0 := hbx.cells 0 _ rfl
  have x1 := hbx.cells 1 _ rfl
  have x2 := hbx.cells 2 _ rfl
  have x3 := hbx.cells 3 _ rfl
  have xl := hbx.lt
  have xf := hbx.fz
  have hb : BoxV (g + 6) (smQs g).toList wb := BoxV.of_row hlk.eqs
  have bl := hb.lt
  have bf := hb.fz
  have b13 := hb.cells 13 _ rfl
  have b14 := hb.cells 14 _ rfl
  have b15 := hb.cells 15 _ rfl
  have b16 := hb.cells 16 _ rfl
  have b17 := hb.cells 17 _ rfl
  have b18 := hb.cells 18 _ rfl
  have b19 := hb.cells 19 _ rfl
  have b20 := hb.cells 20 _ rfl
  have b21 := hb.cells 21 _ rfl
  have b22 := hb.cells 22 _ rfl
  have b23 := hb.cells 23 _ rfl
  have b24 := hb.cells 24 _ rfl
  have b25 := hb.cells 25 _ rfl
  clear hb
  have n1 : ¬ (X = g + 6) := by omega
  have n2 : ¬ (g + 6 = X) := by omega
  have n3 : ¬ (X = g + 2) := by omega
  have n4 : ¬ (g + 2 = X) := by omega
  have n5 : ¬ (X = g + 1) := by omega
  have n6 : ¬ (g + 1 = X) := by omega
  clear hwa hea hba hla hsa hta hwb hxab hby hlk hbx htab H1 H2 hwT
  have HKB : Hid (Kb [X, g + 1, g + 2, g + 6] wb ((((((((((((((wb.setCell ⟨g + 6, 13, none⟩ (.int .i64 3)).setCell ⟨g + 6, 14, none⟩ (.string nM)).setCell ⟨g + 6, 15, none⟩ (.int .i64 0)).setCell ⟨g + 6, 16, none⟩ (.int .i64 0)).setCell ⟨g + 6, 17, none⟩ (.int .i64 0)).setCell ⟨g + 6, 18, none⟩ (.int .i64 0)).setCell ⟨g + 6, 19, none⟩ (.string eB)).setCell ⟨g + 6, 20, none⟩ (NLc)).setCell ⟨g + 6, 21, none⟩ (.int .i64 0)).setCell ⟨g + 6, 22, none⟩ (.string eB)).setCell ⟨g + 6, 23, none⟩ (.string eB)).setCell ⟨g + 6, 24, none⟩ (.int .i64 0)).setCell ⟨g + 6, 25, none⟩ (.int .i64 0)))) := Lib.hid (((((((((((((Kb.set _ _ _ (by simp) _).trans (Kb.set _ _ _ (by simp) _)).trans (Kb.set _ _ _ (by simp) _)).trans (Kb.set _ _ _ (by simp) _)).trans (Kb.set _ _ _ (by simp) _)).trans (Kb.set _ _ _ (by simp) _)).trans (Kb.set _ _ _ (by simp) _)).trans (Kb.set _ _ _ (by simp) _)).trans (Kb.set _ _ _ (by simp) _)).trans (Kb.set _ _ _ (by simp) _)).trans (Kb.set _ _ _ (by simp) _)).trans (Kb.set _ _ _ (by simp) _)).trans (Kb.set _ _ _ (by simp) _))
  have HL6 := Lib.hid (((((((((((((HLK.out.qset 13 (.int .i64 3)).qset 14 (.string nM)).qset 15 (.int .i64 0)).qset 16 (.int .i64 0)).qset 17 (.int .i64 0)).qset 18 (.int .i64 0)).qset 19 (.string eB)).qset 20 (NLc)).qset 21 (.int .i64 0)).qset 22 (.string eB)).qset 23 (.string eB)).qset 24 (.int .i64 0)).qset 25 (.int .i64 0))
  have HS6 : Hid (CPIn ((((((((((((((wb.setCell ⟨g + 6, 13, none⟩ (.int .i64 3)).setCell ⟨g + 6, 14, none⟩ (.string nM)).setCell ⟨g + 6, 15, none⟩ (.int .i64 0)).setCell ⟨g + 6, 16, none⟩ (.int .i64 0)).setCell ⟨g + 6, 17, none⟩ (.int .i64 0)).setCell ⟨g + 6, 18, none⟩ (.int .i64 0)).setCell ⟨g + 6, 19, none⟩ (.string eB)).setCell ⟨g + 6, 20, none⟩ (NLc)).setCell ⟨g + 6, 21, none⟩ (.int .i64 0)).setCell ⟨g + 6, 22, none⟩ (.string eB)).setCell ⟨g + 6, 23, none⟩ (.string eB)).setCell ⟨g + 6, 24, none⟩ (.int .i64 0)).setCell ⟨g + 6, 25, none⟩ (.int .i64 0))) (wrongC 18) (smX4 g)) := Lib.hid (HL6.out.cp (q0 := sm0) (q1 := ⟨3, nM, exZ, 0, eB, eB, 0, 0⟩) (HL6.out.kin 3) (KIn.none _ _ _ _ _ _) (by kernel_rfl))
  clear HL6
  go_upto_region 53 with (first | (go_at_call 20; refine (HA.out _ (smX4 g) (HS6.out)).mono ?_; rintro e3 w3 ⟨rfl, H3⟩) | fail)
  have hfin : Ext w w3 := (HKB.out.ext HE.out (fun k hk => (HW.out k hk).1)).trans H3.out
  have t3 := H3.out.cell (HKB.out.cell (S := [X, g + 1, g + 2, g + 6]) (fun hm => (HW.out T hm).2 rfl) HT.out)
  have tl := World.block_lt_of_cell? _ _ t3
  clear x0 x1 x2 x3 xl xf HKB H3 HA HLK HBX HBY HE HW b13 b14 b15 b16 b17 b18 b19 b20 b21 b22 b23 b24 b25 bl bf
  go_wp2_with (first | (refine region_drew (by kernel_rfl) (by kernel_rfl) ?_; (repeat (go_big_quiet_step (exact in_drew (num13_any _ _)))); refine wpQuiet_nil ?_; rintro _ ⟨nq, rfl⟩) | fail)
  rw [HQ.out]
  exact ⟨rfl, Lib.hid (by repeat first | exact Ext.refl _ | assumption | refine Ext.drew ?_ | refine Ext.drewN ?_ _ | refine Ext.extBy ?_ _ | refine Ext.alloc ?_ _ | refine Ext.setCell ?_ (by simp; try omega) _ | (refine Ext.trans ?_ (by assumption)))⟩
set_option maxHeartbeats 8000000 in
theorem wrongC_20 (w : World) : Calls Try.prog 6 #[.int .i64 ((20 : Nat) : Int)] w fun e w' => e = .returned (.bool true) ∧ Hid (Ext w w') := by
  obtain ⟨Q, hQ⟩ : ∃ Q, Q = fun e w' => e = Ending.returned (.bool true) ∧ Hid (Ext w w') := ⟨_, rfl⟩
  rw [← hQ]
  have HQ := Lib.hid hQ
  obtain ⟨x, hx⟩ : ∃ x, x = wantC 20 := ⟨_, rfl⟩
  have HA : Hid (AskC 20 x) := Lib.hid (by rw [hx]; exact ask_allC ⟨20, by omega⟩)
  have HX := Lib.hid hx
  clear hQ hx
  go_enter Try.func6, Try.ntmps6
  go_upto_region 7 with (first | (go_at_call 14; refine (alive13_any _).mono ?_; rintro e w1 ⟨rfl, H1⟩) | (go_at_call 18; refine (smallC_any _).mono ?_; rintro e w2 ⟨g, rfl, H2⟩) | (go_at_call 19; refine (var13_any _ _).mono ?_; rintro e w3 ⟨rfl, rfl⟩) | fail)
  obtain ⟨wa, hwa⟩ : ∃ z, z = w2.alloc (.cells (smCA g) 26) := ⟨_, rfl⟩
  have hea : Ext w wa := by rw [hwa]; exact ((H1.out.alloc _).trans H2.out.1).alloc _
  have hba : BoxV w2.heap.size (smCA g).toList wa := by rw [hwa]; exact BoxV.of_row (heap_alloc_last w2 _)
  have hla : LikeD g smOs smLs (smQs g) wa := by rw [hwa]; exact (H2.out.2.2.ext ((Ext.refl w2).alloc _)).d
  have hsa : wa.heap.size = w2.heap.size + 1 := by rw [hwa]; simp
  have hta : wa.cell? ⟨w1.heap.size, 20, none⟩ = some (.int .i64 x) := by
    rw [HX.out, hwa]
    exact (H2.out.1.alloc _).cell (want_at _ _ _ (heap_alloc_last w1 _) ⟨20, by omega⟩)
  rw [← hwa]
  have hgX : g + 6 < w2.heap.size := (Array.getElem?_eq_some_iff.1 H2.out.2.2.eqs).1
  have hTg : w1.heap.size < g := by
    have := H2.out.2.1
    simp at this
    omega
  have hwT := H1.out.size
  generalize w2.heap.size = X at hba hsa hgX ⊢
  generalize w1.heap.size = T at hta hTg hwT ⊢
  obtain ⟨wb, hwb⟩ : ∃ z, z = (wa.alloc (.cells #[.int .i64 2, .int .i64 0, .int .i64 0, .int .i64 0, .string nX, NLc] 33)).alloc (.cells #[.int .i64 2, .int .i64 0, .int .i64 0, .int .i64 0, .string nX, .slice none 0 0] 33) := ⟨_, rfl⟩
  have hxab : Ext wa wb := by rw [hwb]; exact ((Ext.refl wa).alloc _).alloc _
  have hby : BoxV (X + 1 + 1) [.int .i64 2, .int .i64 0, .int .i64 0, .int .i64 0, .string nX, NLc] wb := by
    rw [hwb]
    refine BoxV.of_row (e := 33) (cs := #[.int .i64 2, .int .i64 0, .int .i64 0, .int .i64 0, .string nX, NLc]) ?_
    exact heap_alloc_at _ _ _ (by simp [hsa])
  rw [← hwb]
  have HE : Hid (Ext w wb) := Lib.hid (hea.trans hxab)
  have hbx := hba.ext hxab
  have hlk := hla.ext hxab
  have htab := hxab.cell hta
  have HW : Hid (∀ k ∈ [X, g + 1, g + 2, g + 6], w.heap.size ≤ k ∧ T ≠ k) := Lib.hid (fun k hk => by
    simp only [List.mem_cons, List.not_mem_nil, or_false] at hk
    rcases hk with rfl | rfl | rfl | rfl <;> omega)
  have HLK := Lib.hid hlk
  have HBX := Lib.hid hbx
  have HBY := Lib.hid hby
  have HT := Lib.hid htab
  have x0 := hbx.cells 0 _ rfl
  have x1 := hbx.cells 1 _ rfl
  have x2 := hbx.cells 2 _ rfl
  have x3 := hbx.cells 3 _ rfl
  have xl := hbx.lt
  have xf := hbx.fz
  have hb : BoxV (g + 6) (smQs g).toList wb := BoxV.of_row hlk.eqs
  have bl := hb.lt
  have bf := hb.fz
  have b13 := hb.cells 13 _ rfl
  have b14 := hb.cells 14 _ rfl
  have b15 := hb.cells 15 _ rfl
  have b16 := hb.cells 16 _ rfl
  have b17 := hb.cells 17 _ rfl
  have b18 := hb.cells 18 _ rfl
  have b19 := hb.cells 19 _ rfl
  have b20 := hb.cells 20 _ rfl
  have b21 := hb.cells 21 _ rfl
  have b22 := hb.cells 22 _ rfl
  have b23 := hb.cells 23 _ rfl
  have b24 := hb.cells 24 _ rfl
  have b25 := hb.cells 25 _ rfl
  clear hb
  have n1 : ¬ (X = g + 6) := by omega
  have n2 : ¬ (g + 6 = X) := by omega
  have n3 : ¬ (X = g + 2) := by omega
  have n4 : ¬ (g + 2 = X) := by omega
  have n5 : ¬ (X = g + 1) := by omega
  have n6 : ¬ (g + 1 = X) := by omega
  clear hwa hea hba hla hsa hta hwb hxab hby hlk hbx htab H1 H2 hwT
  have HKB : Hid (Kb [X, g + 1, g + 2, g + 6] wb ((((((((((((((wb.setCell ⟨g + 6, 13, none⟩ (.int .i64 3)).setCell ⟨g + 6, 14, none⟩ (.string nM)).setCell ⟨g + 6, 15, none⟩ (.int .i64 0)).setCell ⟨g + 6, 16, none⟩ (.int .i64 0)).setCell ⟨g + 6, 17, none⟩ (.int .i64 0)).setCell ⟨g + 6, 18, none⟩ (.int .i64 0)).setCell ⟨g + 6, 19, none⟩ (.string eB)).setCell ⟨g + 6, 20, none⟩ (NLc)).setCell ⟨g + 6, 21, none⟩ (.int .i64 0)).setCell ⟨g + 6, 22, none⟩ (.string eB)).setCell ⟨g + 6, 23, none⟩ (.string eB)).setCell ⟨g + 6, 24, none⟩ (.int .i64 2)).setCell ⟨g + 6, 25, none⟩ (.int .i64 0)))) := Lib.hid (((((((((((((Kb.set _ _ _ (by simp) _).trans (Kb.set _ _ _ (by simp) _)).trans (Kb.set _ _ _ (by simp) _)).trans (Kb.set _ _ _ (by simp) _)).trans (Kb.set _ _ _ (by simp) _)).trans (Kb.set _ _ _ (by simp) _)).trans (Kb.set _ _ _ (by simp) _)).trans (Kb.set _ _ _ (by simp) _)).trans (Kb.set _ _ _ (by simp) _)).trans (Kb.set _ _ _ (by simp) _)).trans (Kb.set _ _ _ (by simp) _)).trans (Kb.set _ _ _ (by simp) _)).trans (Kb.set _ _ _ (by simp) _))
  have HL6 := Lib.hid (((((((((((((HLK.out.qset 13 (.int .i64 3)).qset 14 (.string nM)).qset 15 (.int .i64 0)).qset 16 (.int .i64 0)).qset 17 (.int .i64 0)).qset 18 (.int .i64 0)).qset 19 (.string eB)).qset 20 (NLc)).qset 21 (.int .i64 0)).qset 22 (.string eB)).qset 23 (.string eB)).qset 24 (.int .i64 2)).qset 25 (.int .i64 0))
  have HS6 : Hid (CPIn ((((((((((((((wb.setCell ⟨g + 6, 13, none⟩ (.int .i64 3)).setCell ⟨g + 6, 14, none⟩ (.string nM)).setCell ⟨g + 6, 15, none⟩ (.int .i64 0)).setCell ⟨g + 6, 16, none⟩ (.int .i64 0)).setCell ⟨g + 6, 17, none⟩ (.int .i64 0)).setCell ⟨g + 6, 18, none⟩ (.int .i64 0)).setCell ⟨g + 6, 19, none⟩ (.string eB)).setCell ⟨g + 6, 20, none⟩ (NLc)).setCell ⟨g + 6, 21, none⟩ (.int .i64 0)).setCell ⟨g + 6, 22, none⟩ (.string eB)).setCell ⟨g + 6, 23, none⟩ (.string eB)).setCell ⟨g + 6, 24, none⟩ (.int .i64 2)).setCell ⟨g + 6, 25, none⟩ (.int .i64 0))) (wrongC 20) (smX4 g)) := Lib.hid (HL6.out.cp (q0 := sm0) (q1 := ⟨3, nM, exZ, 0, eB, eB, 2, 0⟩) (HL6.out.kin 3) (KIn.none _ _ _ _ _ _) (by kernel_rfl))
  clear HL6
  go_upto_region 53 with (first | (go_at_call 20; refine (HA.out _ (smX4 g) (HS6.out)).mono ?_; rintro e3 w3 ⟨rfl, H3⟩) | fail)
  have hfin : Ext w w3 := (HKB.out.ext HE.out (fun k hk => (HW.out k hk).1)).trans H3.out
  have t3 := H3.out.cell (HKB.out.cell (S := [X, g + 1, g + 2, g + 6]) (fun hm => (HW.out T hm).2 rfl) HT.out)
  have tl := World.block_lt_of_cell? _ _ t3
  clear x0 x1 x2 x3 xl xf HKB H3 HA HLK HBX HBY HE HW b13 b14 b15 b16 b17 b18 b19 b20 b21 b22 b23 b24 b25 bl bf
  go_wp2_with (first | (refine region_drew (by kernel_rfl) (by kernel_rfl) ?_; (repeat (go_big_quiet_step (exact in_drew (num13_any _ _)))); refine wpQuiet_nil ?_; rintro _ ⟨nq, rfl⟩) | fail)
  rw [HQ.out]
  exact ⟨rfl, Lib.hid (by repeat first | exact Ext.refl _ | assumption | refine Ext.drew ?_ | refine Ext.drewN ?_ _ | refine Ext.extBy ?_ _ | refine Ext.alloc ?_ _ | refine Ext.setCell ?_ (by simp; try omega) _ | (refine Ext.trans ?_ (by assumption)))⟩
end Go.Proofs.Ytmommjagndadjaa

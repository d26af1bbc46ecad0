/-
  The laws on step code: the document's example, rows of one number.
  No condition.
  The laws on step code: the example is played.
  No condition.
  The law on what can be wrong with step code: plain; how the example lies in memory when some of it is turned.
  No condition.
-/
import Derived.Test.YtkjgghbdpmkmoaaJoA
namespace Go.Proofs.Ytkjgghbdpmkmoaa
open Go.RowKit Go.Maps
set_option linter.unusedSimpArgs false
set_option linter.unusedVariables false
set_option maxRecDepth 100000

/-! ### Plain -/
abbrev bM : ByteArray := ⟨#[109]⟩
abbrev bX : ByteArray := ⟨#[120]⟩
abbrev bY : ByteArray := ⟨#[121]⟩
abbrev exN (n : ByteArray) : CE := .mk 2 0 0 0 n []
abbrev exL (k n : Int) : CE := .mk 1 0 k n ⟨#[]⟩ []
abbrev smE : CE := .mk 4 3 0 0 ⟨#[]⟩ [exN bM, exN bX]
abbrev smB0 : ST := .mk 1 bY smE [] []
abbrev smB1 : ST := .mk 2 bM (exN bY) [] []
abbrev smallS : SP := { ins := [⟨bX, 2⟩], outs := [⟨bY, 2⟩], vars := [], cells := [⟨bM, 2, 0⟩], body := [smB0, smB1] }
theorem small_chk : chkS smallS = 0 := by decide +kernel
theorem small_run : runS smallS [[1], [2], [3]] = (0, [[1], [3], [6]]) := by decide +kernel
theorem small_len : lenP smallS.body = 6 := by decide +kernel
theorem i64_of {n : Int} (h : -9223372036854775808 ≤ n ∧ n < 9223372036854775808) : I64 n := by unfold I64; omega
theorem i64_2 : I64 2 := i64_of (by omega)
theorem okP_of {s : SP} (h1 : ∀ v ∈ s.ins, v.name.size ≤ 9 ∧ I64 v.kind) (h2 : ∀ v ∈ s.outs, v.name.size ≤ 9 ∧ I64 v.kind) (h3 : ∀ v ∈ s.vars, v.name.size ≤ 9 ∧ I64 v.kind) (h4 : ∀ v ∈ s.cells, v.name.size ≤ 9 ∧ I64 v.kind ∧ I64 v.init) (h5 : okL s.body) : okP s :=
  have hm : 9 ≤ maxLen := by decide
  ⟨fun v hv => ⟨Nat.le_trans (h1 v hv).1 hm, (h1 v hv).2⟩, fun v hv => ⟨Nat.le_trans (h2 v hv).1 hm, (h2 v hv).2⟩, fun v hv => ⟨Nat.le_trans (h3 v hv).1 hm, (h3 v hv).2⟩, fun v hv => ⟨Nat.le_trans (h4 v hv).1 hm, (h4 v hv).2⟩, h5⟩
theorem okE_mk {f s k n : Int} {nm : ByteArray} {ks : List CE} (h1 : -9999 ≤ f ∧ f < 9999) (h2 : -9999 ≤ s ∧ s < 9999) (h3 : -9999 ≤ k ∧ k < 9999) (h4 : -9999 ≤ n ∧ n < 9999) (h5 : nm.size ≤ 9) (h6 : okK ks) : okE (.mk f s k n nm ks) := by
  unfold okE
  exact ⟨i64_of (by omega), i64_of (by omega), i64_of (by omega), i64_of (by omega), Nat.le_trans h5 (by decide), h6⟩
theorem okK_nil : okK [] := by unfold okK; trivial
theorem okK_cons {e : CE} {l : List CE} (h1 : okE e) (h2 : okK l) : okK (e :: l) := by unfold okK; exact ⟨h1, h2⟩
theorem okL_nil : okL [] := by unfold okL; trivial
theorem okL_cons {e : ST} {l : List ST} (h1 : okS e) (h2 : okL l) : okL (e :: l) := by unfold okL; exact ⟨h1, h2⟩
theorem okS_mk {f : Int} {nm : ByteArray} {e : CE} {t l : List ST} (h1 : -9999 ≤ f ∧ f < 9999) (h5 : nm.size ≤ 9) (h2 : okE e) (h3 : okL t) (h4 : okL l) : okS (.mk f nm e t l) := by
  unfold okS
  exact ⟨i64_of (by omega), Nat.le_trans h5 (by decide), h2, h3, h4⟩
theorem cv_one {n : ByteArray} {k : Int} (h1 : n.size ≤ 9) (h2 : -9999 ≤ k ∧ k < 9999) : ∀ v ∈ [(⟨n, k⟩ : CV)], v.name.size ≤ 9 ∧ I64 v.kind := by
  intro v hv; rw [List.mem_singleton.1 hv]; exact ⟨h1, i64_of (by simp only; omega)⟩
theorem cl_one {n : ByteArray} {k i : Int} (h1 : n.size ≤ 9) (h2 : -9999 ≤ k ∧ k < 9999) (h3 : -9999 ≤ i ∧ i < 9999) : ∀ v ∈ [(⟨n, k, i⟩ : CL)], v.name.size ≤ 9 ∧ I64 v.kind ∧ I64 v.init := by
  intro v hv; rw [List.mem_singleton.1 hv]; exact ⟨h1, i64_of (by simp only; omega), i64_of (by simp only; omega)⟩
theorem ok_exN (n : ByteArray) (h : n.size ≤ 9) : okE (exN n) := okE_mk (by omega) (by omega) (by omega) (by omega) h okK_nil
theorem ok_smE : okE smE := okE_mk (by omega) (by omega) (by omega) (by omega) (by decide) (okK_cons (ok_exN _ (by decide)) (okK_cons (ok_exN _ (by decide)) okK_nil))
theorem ok_smB0 : okS smB0 := okS_mk (by omega) (by decide) ok_smE okL_nil okL_nil
theorem ok_smB1 : okS smB1 := okS_mk (by omega) (by decide) (ok_exN _ (by decide)) okL_nil okL_nil
theorem small_ok : okP smallS := okP_of (cv_one (by decide) (by omega)) (cv_one (by decide) (by omega)) (fun v h => by cases h) (cl_one (by decide) (by omega) (by omega)) (okL_cons ok_smB0 (okL_cons ok_smB1 okL_nil))
/-! ### In memory -/
theorem SlC.of_block {w : World} {g : Nat} {arr : Array Value} {e : TypeId} {fr : Nat × Nat} (hg : w.heap[g]? = some (.cells arr e fr)) (n cap : Nat) (cs : List Value) (hn : n ≤ cap) (hc : cap ≤ maxLen) (ha : arr.toList = cs) : SlC w (.slice (some ⟨g, 0, none⟩) n cap) n cs := by
  refine ⟨_, cap, rfl, hn, hc, fun j u hu => ⟨g, 0, rfl, ?_⟩⟩
  subst ha
  rw [Nat.zero_add, cell_of_row w g j arr e fr hg]
  simpa using hu
theorem own_block {w : World} {g base : Nat} {arr : Array Value} {e : TypeId} {size : Nat} (hg : w.heap[g]? = some (.cells arr e (0, 0))) (hb : base ≤ g) (n : Nat) (hs : arr.size = n * size) (hm : n ≤ maxLen) (xs : List Value) (hx : arr.toList = xs) : w.ownsRow base e size (.slice (some ⟨g, 0, none⟩) n n) n xs := by
  subst hx
  refine ⟨by simp [hs], .inr ⟨g, n, arr, rfl, hb, hg, Nat.le_refl _, hm, hs, ?_⟩⟩
  rw [List.take_of_length_le (by simp [hs])]
theorem KIn.leaf (w : World) (f s k n : Int) (nm : ByteArray) : KIn w (.mk f s k n nm []) (.slice none 0 0) := by
  unfold KIn
  exact ⟨[], SlC.nil w, by unfold KsIn; rfl⟩
theorem BIn.nil (w : World) : BIn w (.slice none 0 0) [] := ⟨[], SlC.nil w, by unfold SsIn; rfl⟩
theorem KsIn.nil (w : World) : KsIn w [] [] := by unfold KsIn; rfl
theorem KsIn.cons {w : World} {k : CE} {ks : List CE} {v : Value} {vs : List Value} (h : KIn w k v) (h2 : KsIn w ks vs) : KsIn w (k :: ks) (v :: vs) := by
  unfold KsIn; exact ⟨_, _, rfl, h, h2⟩
theorem SsIn.nil (w : World) : SsIn w [] [] := by unfold SsIn; rfl
theorem SsIn.cons {w : World} {k : ST} {ks : List ST} {v : S3} {vs : List S3} (h : SIn w k v) (h2 : SsIn w ks vs) : SsIn w (k :: ks) (v :: vs) := by
  unfold SsIn; exact ⟨_, _, rfl, h, h2⟩
theorem SIn.mk {w : World} {f : Int} {nm : ByteArray} {e : CE} {t l : List ST} {x : S3} (h1 : KIn w e x.kv) (h2 : BIn w x.tv t) (h3 : BIn w x.ev l) : SIn w (.mk f nm e t l) x := by
  unfold SIn; exact ⟨h1, h2, h3⟩
theorem VIn.nil (w : World) : VIn w (.slice none 0 0) [] := ⟨[], rfl, fun q h => (by cases h), SlC.nil w⟩
theorem CIn.nil (w : World) : CIn w (.slice none 0 0) [] := SlC.nil w
abbrev NL : Value := .slice none 0 0
theorem VIn.one {w : World} {g : Nat} {n : ByteArray} {k : Int} {t : TypeId} {fr : Nat × Nat} (h : w.heap[g]? = some (.cells #[.string n, .int .i64 k, NL] t fr)) : VIn w (.slice (some ⟨g, 0, none⟩) 1 1) [⟨n, k⟩] :=
  ⟨[NL], rfl, fun q hq => by rw [List.mem_singleton.1 hq]; exact ⟨_, _, _, rfl⟩, SlC.of_block h 1 1 _ (by decide) (by decide) rfl⟩
theorem CIn.one {w : World} {g : Nat} {n : ByteArray} {k i : Int} {t : TypeId} {fr : Nat × Nat} (h : w.heap[g]? = some (.cells #[.string n, .int .i64 k, .int .i64 i] t fr)) : CIn w (.slice (some ⟨g, 0, none⟩) 1 1) [⟨n, k, i⟩] :=
  SlC.of_block h 1 1 _ (by decide) (by decide) rfl
/-- The example in memory: the slices' blocks from g on; the cells' and the body's blocks as they are. -/
structure LikeS (g : Nat) (cs bs : Array Value) (w : World) : Prop where
  ins : w.heap[g]? = some (.cells #[.string bX, .int .i64 2, NL] 32 (0, 0))
  outs : w.heap[g + 1]? = some (.cells #[.string bY, .int .i64 2, NL] 32 (0, 0))
  cells : w.heap[g + 2]? = some (.cells cs 39 (0, 0))
  kids : w.heap[g + 5]? = some (.cells #[.int .i64 2, .int .i64 0, .int .i64 0, .int .i64 0, .string bM, NL, .int .i64 2, .int .i64 0, .int .i64 0, .int .i64 0, .string bX, NL] 35 (0, 0))
  body : w.heap[g + 7]? = some (.cells bs 37 (0, 0))
theorem LikeS.ext {g : Nat} {cs bs : Array Value} {w w' : World} (h : LikeS g cs bs w) (hx : Ext w w') : LikeS g cs bs w' :=
  ⟨ext_block hx h.ins, ext_block hx h.outs, ext_block hx h.cells, ext_block hx h.kids, ext_block hx h.body⟩
abbrev smCs : Array Value := #[.string bM, .int .i64 2, .int .i64 0]
abbrev smBs (g : Nat) : Array Value := #[.int .i64 1, .string bY, .int .i64 4, .int .i64 3, .int .i64 0, .int .i64 0, .string ⟨#[]⟩, .slice (some ⟨g + 5, 0, none⟩) 2 2, NL, NL, .int .i64 2, .string bM, .int .i64 2, .int .i64 0, .int .i64 0, .int .i64 0, .string bY, NL, NL, NL]
abbrev smX (g : Nat) : S5 := ⟨.slice (some ⟨g, 0, none⟩) 1 1, .slice (some ⟨g + 1, 0, none⟩) 1 1, NL, .slice (some ⟨g + 2, 0, none⟩) 1 1, .slice (some ⟨g + 7, 0, none⟩) 2 2⟩
theorem LikeS.kin {g : Nat} {cs bs : Array Value} {w : World} (h : LikeS g cs bs w) : KIn w smE (.slice (some ⟨g + 5, 0, none⟩) 2 2) := by
  refine KIn.of (kvs := [NL, NL]) ?_ (KsIn.cons (KIn.leaf _ _ _ _ _ _) (KsIn.cons (KIn.leaf _ _ _ _ _ _) (KsIn.nil _)))
  exact SlC.of_block h.kids 2 2 _ (by decide) (by decide) rfl
theorem LikeS.small {g : Nat} {w : World} (h : LikeS g smCs (smBs g) w) : SPIn w smallS (smX g) where
  ins := VIn.one h.ins
  outs := VIn.one h.outs
  vars := VIn.nil w
  cells := CIn.one h.cells
  body := ⟨[⟨.slice (some ⟨g + 5, 0, none⟩) 2 2, NL, NL⟩, ⟨NL, NL, NL⟩], SlC.of_block h.body 2 2 _ (by decide) (by decide) rfl,
    SsIn.cons (SIn.mk h.kin (BIn.nil w) (BIn.nil w)) (SsIn.cons (SIn.mk (KIn.leaf _ _ _ _ _ _) (BIn.nil w) (BIn.nil w)) (SsIn.nil w))⟩
theorem num17_any (n : Int) (w : World) : Calls Try.prog 9 #[.int .i64 n] w fun e w' => e = .returned (.int .i64 n) ∧ w = w' := by
  go_enter Try.func9, Try.ntmps9
  go_wp2
  go_ret
  exact ⟨rfl, rfl⟩
theorem name17_any (n : ByteArray) (w : World) : Calls Try.prog 7 #[.string n] w fun e w' => e = .returned (.agg #[.int .i64 2, .int .i64 0, .int .i64 0, .int .i64 0, .string n, NL]) ∧ w' = w.alloc (.cells #[.int .i64 2, .int .i64 0, .int .i64 0, .int .i64 0, .string n, NL] 35) := by
  go_enter Try.func7, Try.ntmps7
  go_wp2
  refine ret_row rfl w.heap.size 35 #[.int .i64 2, .int .i64 0, .int .i64 0, .int .i64 0, .string n, NL] _ rfl ?hg Try.underlying35 rfl (by kernel_rfl) rfl ?_
  case hg => exact heap_alloc_last w _
  exact ⟨rfl, rfl⟩
set_option maxHeartbeats 2000000 in
theorem small17_any (w : World) : Calls Try.prog 6 #[] w fun e w' => e = .returned (.agg #[(smX (w.heap.size + 1)).iv, (smX (w.heap.size + 1)).ov, NL, (smX (w.heap.size + 1)).cv, (smX (w.heap.size + 1)).bv]) ∧ Ext w w' ∧ w'.heap.size = w.heap.size + 9 ∧ LikeS (w.heap.size + 1) smCs (smBs (w.heap.size + 1)) w' := by
  go_enter Try.func6, Try.ntmps6
  go_wp2_with (first | (go_at_call 7; refine (name17_any _ _).mono ?_; rintro e1 w1 ⟨rfl, rfl⟩))
  refine ret_row rfl w.heap.size 28 #[.slice (some ⟨w.heap.size + 1, 0, none⟩) 1 1, .slice (some ⟨w.heap.size + 1 + 1, 0, none⟩) 1 1, NL, .slice (some ⟨w.heap.size + 1 + 1 + 1, 0, none⟩) 1 1, .slice (some ⟨w.heap.size + 1 + 1 + 1 + 1 + 1 + 1 + 1 + 1, 0, none⟩) 2 2] _ rfl ?hg Try.underlying28 rfl (by kernel_rfl) rfl ?_
  case hg => repeat (first | (refine heap_alloc_at _ _ _ ?_; rfl) | (refine (Below.heap_alloc _ _ _ ?_).trans ?_; · (simp only [World.size_alloc]; omega)))
  refine ⟨rfl, (by repeat first | exact Ext.refl _ | assumption | refine Ext.drew ?_ | refine Ext.drewN ?_ _ | refine Ext.extBy ?_ _ | refine Ext.alloc ?_ _ | refine Ext.setCell ?_ (by simp; try omega) _ | (refine Ext.trans ?_ (by assumption))), by simp, ?_, ?_, ?_, ?_, ?_⟩
  all_goals repeat (first | (refine heap_alloc_at _ _ _ ?_; simp; done) | (refine (Below.heap_alloc _ _ _ ?_).trans ?_; · simp))
/-- Rows of one number each. -/
def ones (l : List Int) : List (List Int) := l.map fun x => [x]
theorem ones_get {l : List Int} {j : Nat} {x : Int} (h : l[j]? = some x) : (ones l)[j]? = some [x] := by unfold ones; rw [List.getElem?_map, h]; rfl
theorem one_row {w : World} {x : Int} : (w.alloc (.cells #[.int .i64 x] 3)).ownsRow w.heap.size 3 1 (.slice (some ⟨w.heap.size, 0, none⟩) 1 1) [x].length (i64s [x]) :=
  own_block (heap_alloc_last w _) (Nat.le_refl _) 1 rfl (by decide) _ rfl
def RowsP (W : World) (rs : List (List Int)) (e : Ending) (w' : World) : Prop := ∃ (v : Value) (vs : List Value), e = .returned v ∧ RowsIn w' v vs rs ∧ Ext W w'
/-- A row more: [x] in a new block. -/
theorem OutsA.one {W w w2 : World} {ov ov2 : Value} {vs : List Value} {os : List (List Int)} (h : OutsA W ov vs os [] [] w) (x : Int) (hg : ((w.alloc (.cells #[.int .i64 x] 3)).alloc (.cells #[.slice (some ⟨w.heap.size, 0, none⟩) 1 1] 23)).grownBy w2 ov.ownBlock) (hown : w2.ownsRow W.heap.size 23 1 ov2 (vs.length + 1) (vs ++ [.slice (some ⟨w.heap.size, 0, none⟩) 1 1])) (hat : ov2.ownBlock = ov.ownBlock ∨ ov2.ownBlock = some ((w.alloc (.cells #[.int .i64 x] 3)).alloc (.cells #[.slice (some ⟨w.heap.size, 0, none⟩) 1 1] 23)).heap.size) :
    OutsA W ov2 (vs ++ [.slice (some ⟨w.heap.size, 0, none⟩) 1 1]) (os ++ [[x]]) [] [] w2 := by
  have h1 : OutsA W ov vs os [] [] (w.alloc (.cells #[.int .i64 x] 3)) := h.tick (Kb.of_ext (S := []) ((Ext.refl w).alloc _)) (by simp) (fun k hk => .inl hk) (fun k hk => .inl hk)
  refine (h1.push (x := .slice (some ⟨w.heap.size, 0, none⟩) 1 1) (r := [x]) (B := w.heap.size) one_row h.ext.size (fun b hb => ⟨by simp, fun e => ?_⟩) (by simp) (by simp) hg hown hat).1
  simp only [Value.ownBlock, Option.some.injEq] at hb
  have := (h.top.lt b e).2
  omega
set_option maxHeartbeats 2000000 in
theorem rows11_any (l : List Int) (v : Value) (w : World) (h : SlC w v l.length (i64s l)) (hl : l.length ≤ 100000) : Calls Try.prog 12 #[v] w (RowsP w (ones l)) := by
  obtain ⟨Q, hQ⟩ : ∃ Q, Q = RowsP w (ones l) := ⟨_, rfl⟩
  rw [← hQ]
  have HQ := Lib.hid hQ
  obtain ⟨p, cap, rfl, h1, h2, hc⟩ := id h
  obtain ⟨n, hn⟩ : ∃ n, n = l.length := ⟨_, rfl⟩
  rw [← hn] at h1 hl ⊢
  have HN := Lib.hid (And.intro hn hc)
  have hcI : (cap : Int) ≤ 9223372036854775807 := by unfold maxLen at h2; omega
  clear hQ hn h hc h2
  go_enter Try.func12, Try.ntmps12
  go_wp2
  go_loopw [3, 4] (fun o i wr => ∃ (j : Nat) (p9 : Option Addr) (c9 : Nat) (xs : List Value), j ≤ n ∧ i = .int .i64 (j : Int) ∧ o = .slice p9 j c9 ∧ Hid (OutsA w (.slice p9 j c9) xs (ones (l.take j)) [] [] wr ∧ xs.length = j)) (fun _ i _ => n - (intOf i).toNat)
  case atStart => exact ⟨0, none, 0, [], Nat.zero_le _, rfl, rfl, Lib.hid ⟨OutsA.nil _ _ _ (Ext.refl _), rfl⟩⟩
  case round =>
    obtain ⟨j, p9, c9, xs, hj, rfl, rfl, HO⟩ := hrel
    by_cases hlt : j < n
    · have hji : (j : Int) < (n : Int) := Int.ofNat_lt.2 hlt
      obtain ⟨x, hx⟩ : ∃ x, l[j]? = some x := ⟨_, List.getElem?_eq_getElem (by have := HN.out.1; omega)⟩
      obtain ⟨b, o, rfl, f1⟩ := HN.out.2 j (.int .i64 x) (by unfold i64s; rw [List.getElem?_map, hx]; rfl)
      have f2 := HO.out.1.ext.cell f1
      have z1 : b < wr.heap.size := World.block_lt_of_cell? wr _ f2
      have hjc : j < cap := by omega
      have HX := Lib.hid hx
      clear hx f1
      have hsw : w.heap.size ≤ wr.heap.size := HO.out.1.ext.size
      go_wp2_with (at_builtin; (refine wpList_append_slc _ rfl (.tmp 11) (.tmp 17) 46 rfl w.heap.size 23 (.slice none 0 0) 1 24 Try.underlying46 infoInts rfl (by decide) (.slice p9 j c9) xs.length xs rfl (ownsRow_ext HO.out.1.top (by repeat first | exact Ext.refl _ | assumption | refine Ext.drew ?_ | refine Ext.drewN ?_ _ | refine Ext.extBy ?_ _ | refine Ext.alloc ?_ _ | refine Ext.setCell ?_ (by simp; try omega) _ | (refine Ext.trans ?_ (by assumption)))) _ 1 [.slice (some ⟨wr.heap.size, 0, none⟩) 1 1] rfl (SlC.fresh _ #[.slice (some ⟨wr.heap.size, 0, none⟩) 1 1] _ 1 _ (by simp) (by decide)) rfl (by simp [Value.oneCell']) (by have := HO.out.2; unfold maxLen; omega) (by have := HO.out.2; omega) (by simp; omega) ?_; intro v9 w9 hown9 hg9 hat9; obtain ⟨x9, y9, z9, rfl⟩ := own_slice3 hown9; have HP := Lib.hid (And.intro hown9 (And.intro hg9 hat9)); clear hown9 hg9 hat9))
      have h9 := HO.out.1.one x HP.out.2.1 HP.out.1 HP.out.2.2
      have hy : y9 = j + 1 := by
        obtain ⟨a', c', e, -⟩ := SlC.of_owns HP.out.1
        simp at e
        rw [e.2.1, HO.out.2]
      subst hy
      refine ⟨⟨j + 1, x9, z9, xs ++ [.slice (some ⟨wr.heap.size, 0, none⟩) 1 1], by omega, by go_num, rfl, Lib.hid ⟨?_, by simp [HO.out.2]⟩⟩, by simp [intOf]; omega⟩
      rw [List.take_add_one, HX.out, Option.toList_some]
      unfold ones at h9 ⊢
      rw [List.map_append]
      exact h9
    · have hji : ¬ (j : Int) < (n : Int) := fun e => hlt (Int.ofNat_lt.1 e)
      obtain rfl : j = n := by omega
      go_wp2
      rw [HQ.out]
      have h9 := HO.out.1
      rw [HN.out.1, List.take_length] at h9
      refine ⟨_, xs, rfl, ?_, HO.out.1.ext⟩
      rw [HN.out.1]
      exact h9.rows
end Go.Proofs.Ytkjgghbdpmkmoaa
namespace Go.Proofs.Ytkjgghbdpmkmoaa
open Go.RowKit Go.Maps
set_option linter.unusedSimpArgs false
set_option linter.unusedVariables false
set_option maxRecDepth 100000

abbrev smA (g : Nat) : Array Value := #[.slice (some ⟨g, 0, none⟩) 1 1, .slice (some ⟨g + 1, 0, none⟩) 1 1, .slice none 0 0, .slice (some ⟨g + 2, 0, none⟩) 1 1, .slice (some ⟨g + 7, 0, none⟩) 2 2]
def SmallP (w : World) (e : Ending) (w' : World) : Prop := ∃ g, e = .returned (.agg (smA g)) ∧ Hid (Ext w w' ∧ w.heap.size ≤ g ∧ LikeS g smCs (smBs g) w')
theorem small_any (w : World) : Calls Try.prog 6 #[] w (SmallP w) :=
  (small17_any w).mono fun e w' ⟨h1, h2, h3, h4⟩ => ⟨w.heap.size + 1, h1, Lib.hid ⟨h2, by omega, h4⟩⟩
theorem sm_run {g : Nat} {w : World} (h : LikeS g smCs (smBs g) w) (w' : World) (hx : Ext w w') (v : Value) (vs : List Value) (hr : RowsIn w' v vs (ones [1, 2, 3])) :
    Calls Try.prog 10 #[.agg (smA g), v] w' fun e w'' => ∃ v' vs', e = .returned (.tuple #[v', .int .i64 0]) ∧ Hid (RowsIn w'' v' vs' (ones [1, 3, 6]) ∧ Ext w' w'') := by
  refine (run_any smallS (smX g) v vs _ w' ((h.ext hx).small) small_ok hr ?_).mono ?_
  · intro r hr n hn
    simp only [ones, List.map_cons, List.map_nil, List.mem_cons, List.not_mem_nil, or_false] at hr
    rcases hr with rfl | rfl | rfl <;> (rw [List.mem_singleton.1 hn]; exact i64_of (by omega))
  · rintro e w'' ⟨v', vs', h1, h2, h3⟩
    rw [show ones [1, 2, 3] = [[1], [2], [3]] from rfl, small_run] at h1 h2
    exact ⟨v', vs', h1, Lib.hid ⟨h2, h3⟩⟩
theorem sm_check {g : Nat} {w : World} (h : LikeS g smCs (smBs g) w) (w' : World) (hx : Ext w w') :
    Calls Try.prog 8 #[.agg (smA g)] w' fun e w'' => e = .returned (.int .i64 0) ∧ Hid (Ext w' w'') := by
  have := check_any smallS (smX g) w' ((h.ext hx).small) small_ok
  rw [small_chk] at this
  exact this
theorem sm_size {g : Nat} {w : World} (h : LikeS g smCs (smBs g) w) (w' : World) (hx : Ext w w') :
    Calls Try.prog 13 #[.agg (smA g)] w' fun e w'' => e = .returned (.int .i64 6) ∧ Hid (Ext w' w'') := by
  have := size_all smallS (smX g) w' ((h.ext hx).small) small_ok
  rw [small_len] at this
  exact this
theorem rows3 (a b c : Int) (w : World) (n : Nat) (hn : n = w.heap.size) : Calls Try.prog 12 #[.slice (some ⟨n, 0, none⟩) 3 3] (w.alloc (.cells #[.int .i64 a, .int .i64 b, .int .i64 c] 3)) fun e w' => ∃ v vs, e = .returned v ∧ Hid (RowsIn w' v vs (ones [a, b, c]) ∧ Ext w w') := by
  subst hn
  refine (rows11_any [a, b, c] _ _ (SlC.of_block (heap_alloc_last w _) 3 3 _ (by decide) (by decide) rfl) (show 3 ≤ 100000 by decide)).mono ?_
  rintro e w' ⟨v, vs, h1, h2, h3⟩
  exact ⟨v, vs, h1, Lib.hid ⟨h2, ((Ext.refl w).alloc _).trans h3⟩⟩
set_option maxHeartbeats 4000000 in
theorem alive17_any (w : World) : Calls Try.prog 5 #[] w fun e w' => e = .returned (.bool true) ∧ Hid (Ext w w') := by
  obtain ⟨Q, hQ⟩ : ∃ Q, Q = fun e w' => e = Ending.returned (.bool true) ∧ Hid (Ext w w') := ⟨_, rfl⟩
  rw [← hQ]
  have HQ := Lib.hid hQ
  clear hQ
  go_enter Try.func5, Try.ntmps5
  go_upto_region 2 with (first
    | (go_at_call 6; refine (small_any _).mono ?_; rintro e1 w1 ⟨g1, rfl, H1⟩)
    | (go_at_call 12; refine (rows3 1 2 3 _ _ rfl).mono ?_; rintro e2 w2 ⟨v2, vs2, rfl, H2⟩)
    | (go_at_call 10; refine (sm_run H1.out.2.2 _ H2.out.2 _ _ H2.out.1).mono ?_; rintro e3 w3 ⟨v3, vs3, rfl, H3⟩) | fail)
  go_upto_region 3 with (first
    | (go_at_call 6; refine (small_any _).mono ?_; rintro e4 w4 ⟨g4, rfl, H4⟩)
    | (go_at_call 8; refine (sm_check H4.out.2.2 _ (Ext.refl _)).mono ?_; rintro e5 w5 ⟨rfl, H5⟩) | fail)
  go_wp2_with (first
    | (go_at_call 9; refine (num17_any _ _).mono ?_; rintro e6 w6 ⟨rfl, rfl⟩)
    | (go_at_call 6; refine (small_any _).mono ?_; rintro e7 w7 ⟨g7, rfl, H7⟩)
    | (go_at_call 13; refine (sm_size H7.out.2.2 _ (Ext.refl _)).mono ?_; rintro e8 w8 ⟨rfl, H8⟩)
    | (go_at_call 12; refine (rows3 1 3 6 _ _ rfl).mono ?_; rintro e9 w9 ⟨v9, vs9, rfl, H9⟩)
    | (go_at_call 11; refine (sameRows_any (H3.out.1.ext (H4.out.1.trans (H5.out.trans (H7.out.1.trans (H8.out.trans H9.out.2))))) H9.out.1).mono ?_; rintro e10 w10 ⟨rfl, hx10⟩) | fail)
  rw [HQ.out]
  exact ⟨rfl, Lib.hid (H1.out.1.trans (H2.out.2.trans (H3.out.2.trans (H4.out.1.trans (H5.out.trans (H7.out.1.trans (H8.out.trans (H9.out.2.trans hx10))))))))⟩
end Go.Proofs.Ytkjgghbdpmkmoaa
namespace Go.Proofs.Ytkjgghbdpmkmoaa
open Go.RowKit Go.Maps
set_option linter.unusedSimpArgs false
set_option linter.unusedVariables false
set_option maxRecDepth 100000

abbrev bV : ByteArray := ⟨#[118]⟩
abbrev bQ : ByteArray := ⟨#[113]⟩
abbrev b0 : ByteArray := ⟨#[]⟩
abbrev whE : CE := .mk 9 0 0 1 bX [exN bX]
abbrev wS1 : SP := { smallS with vars := [⟨bX, 2⟩] }
abbrev wS2 : SP := { smallS with vars := [⟨bV, 0⟩] }
abbrev wS4 : SP := { smallS with cells := [⟨bM, 2, 128⟩] }
abbrev wSB (l : List ST) : SP := { smallS with body := l }
def wrongS : Nat → SP
  | 0 => smallS
  | 1 => wS1
  | 2 => wS2
  | 3 => wSB [.mk 4 bY smE [] [], smB1]
  | 4 => wS4
  | 5 => wSB [smB0, .mk 2 bM whE [] []]
  | 6 => wSB [smB0, .mk 2 bM (exL 2 200) [] []]
  | 7 => wSB [.mk 1 bX smE [] [], smB1]
  | 8 => wSB [.mk 1 bM smE [] [], smB1]
  | 9 => wSB [smB0, .mk 2 bY (exN bY) [] []]
  | 10 => wSB [smB0, .mk 2 bM (exN bQ) [] []]
  | 11 => wSB [smB0, smB1, .mk 3 b0 (exN bX) [] []]
  | 12 => wSB [smB0, .mk 2 bM (exL 6 1) [] []]
  | _ => wSB [smB0, smB1, .mk 3 b0 (exL 1 1) [.mk 1 bY (exN bX) [] []] []]
def wantS : Nat → Int
  | 0 => 0 | 1 => 20 | 2 => 22 | 3 => 40 | 4 => 40 | 5 => 40 | 6 => 40 | 7 => 21 | 8 => 21 | 9 => 21 | 10 => 21 | 11 => 22 | 12 => 22 | _ => 0
theorem chk_wrong : ∀ k : Fin 14, chkS (wrongS k.val) = wantS k.val := by decide +kernel
theorem ok_exL {k n : Int} (h1 : -9999 ≤ k ∧ k < 9999) (h2 : -9999 ≤ n ∧ n < 9999) : okE (exL k n) := okE_mk (by omega) (by omega) h1 h2 (by decide) okK_nil
theorem ok_body {l : List ST} (h : okL l) : okP (wSB l) := okP_of (cv_one (by decide) (by omega)) (cv_one (by decide) (by omega)) (fun v h => by cases h) (cl_one (by decide) (by omega) (by omega)) h
theorem ok_wrong : ∀ k : Fin 14, okP (wrongS k.val) := by
  intro ⟨k, hk⟩
  match k, hk with
  | 0, _ => exact small_ok
  | 1, _ => exact okP_of (cv_one (by decide) (by omega)) (cv_one (by decide) (by omega)) (cv_one (by decide) (by omega)) (cl_one (by decide) (by omega) (by omega)) small_ok.body
  | 2, _ => exact okP_of (cv_one (by decide) (by omega)) (cv_one (by decide) (by omega)) (cv_one (by decide) (by omega)) (cl_one (by decide) (by omega) (by omega)) small_ok.body
  | 3, _ => exact ok_body (okL_cons (okS_mk (by omega) (by decide) ok_smE okL_nil okL_nil) (okL_cons ok_smB1 okL_nil))
  | 4, _ => exact okP_of (cv_one (by decide) (by omega)) (cv_one (by decide) (by omega)) (fun v h => by cases h) (cl_one (by decide) (by omega) (by omega)) small_ok.body
  | 5, _ => exact ok_body (okL_cons ok_smB0 (okL_cons (okS_mk (by omega) (by decide) (okE_mk (by omega) (by omega) (by omega) (by omega) (by decide) (okK_cons (ok_exN _ (by decide)) okK_nil)) okL_nil okL_nil) okL_nil))
  | 6, _ => exact ok_body (okL_cons ok_smB0 (okL_cons (okS_mk (by omega) (by decide) (ok_exL (by omega) (by omega)) okL_nil okL_nil) okL_nil))
  | 7, _ => exact ok_body (okL_cons (okS_mk (by omega) (by decide) ok_smE okL_nil okL_nil) (okL_cons ok_smB1 okL_nil))
  | 8, _ => exact ok_body (okL_cons (okS_mk (by omega) (by decide) ok_smE okL_nil okL_nil) (okL_cons ok_smB1 okL_nil))
  | 9, _ => exact ok_body (okL_cons ok_smB0 (okL_cons (okS_mk (by omega) (by decide) (ok_exN _ (by decide)) okL_nil okL_nil) okL_nil))
  | 10, _ => exact ok_body (okL_cons ok_smB0 (okL_cons (okS_mk (by omega) (by decide) (ok_exN _ (by decide)) okL_nil okL_nil) okL_nil))
  | 11, _ => exact ok_body (okL_cons ok_smB0 (okL_cons ok_smB1 (okL_cons (okS_mk (by omega) (by decide) (ok_exN _ (by decide)) okL_nil okL_nil) okL_nil)))
  | 12, _ => exact ok_body (okL_cons ok_smB0 (okL_cons (okS_mk (by omega) (by decide) (ok_exL (by omega) (by omega)) okL_nil okL_nil) okL_nil))
  | 13, _ => exact ok_body (okL_cons ok_smB0 (okL_cons ok_smB1 (okL_cons (okS_mk (by omega) (by decide) (ok_exL (by omega) (by omega)) (okL_cons (okS_mk (by omega) (by decide) (ok_exN _ (by decide)) okL_nil okL_nil) okL_nil) okL_nil) okL_nil)))
theorem LikeS.bset {g : Nat} {cs bs : Array Value} {w : World} (h : LikeS g cs bs w) (j : Nat) (u : Value) : LikeS g cs (bs.setIfInBounds j u) (w.setCell ⟨g + 7, j, none⟩ u) :=
  ⟨(heap_setCell_other _ _ _ _ (by simp)).trans h.ins, (heap_setCell_other _ _ _ _ (by simp)).trans h.outs, (heap_setCell_other _ _ _ _ (by simp)).trans h.cells, (heap_setCell_other _ _ _ _ (by simp)).trans h.kids, heap_setCell_same _ _ _ _ _ _ h.body⟩
theorem LikeS.cset {g : Nat} {cs bs : Array Value} {w : World} (h : LikeS g cs bs w) (j : Nat) (u : Value) : LikeS g (cs.setIfInBounds j u) bs (w.setCell ⟨g + 2, j, none⟩ u) :=
  ⟨(heap_setCell_other _ _ _ _ (by simp)).trans h.ins, (heap_setCell_other _ _ _ _ (by simp)).trans h.outs, heap_setCell_same _ _ _ _ _ _ h.cells, (heap_setCell_other _ _ _ _ (by simp)).trans h.kids, (heap_setCell_other _ _ _ _ (by simp)).trans h.body⟩
theorem LikeS.other {g : Nat} {cs bs : Array Value} {w : World} (h : LikeS g cs bs w) {X : Nat} (hX : g + 7 < X) (j : Nat) (u : Value) : LikeS g cs bs (w.setCell ⟨X, j, none⟩ u) :=
  ⟨(heap_setCell_other _ _ _ _ (by show _ ≠ X; omega)).trans h.ins, (heap_setCell_other _ _ _ _ (by show _ ≠ X; omega)).trans h.outs, (heap_setCell_other _ _ _ _ (by show _ ≠ X; omega)).trans h.cells, (heap_setCell_other _ _ _ _ (by show _ ≠ X; omega)).trans h.kids, (heap_setCell_other _ _ _ _ (by show _ ≠ X; omega)).trans h.body⟩
/-- Two statements, the second one's expression without kids. -/
theorem LikeS.two {g : Nat} {bs : Array Value} {w : World} (h : LikeS g smCs bs w) {f f2 a b c d : Int} {n n2 n3 : ByteArray} (hb : bs = #[.int .i64 f, .string n, .int .i64 4, .int .i64 3, .int .i64 0, .int .i64 0, .string ⟨#[]⟩, .slice (some ⟨g + 5, 0, none⟩) 2 2, NL, NL, .int .i64 f2, .string n2, .int .i64 a, .int .i64 b, .int .i64 c, .int .i64 d, .string n3, NL, NL, NL]) :
    SPIn w (wSB [.mk f n smE [] [], .mk f2 n2 (.mk a b c d n3 []) [] []]) (smX g) where
  ins := VIn.one h.ins
  outs := VIn.one h.outs
  vars := VIn.nil w
  cells := CIn.one h.cells
  body := ⟨[⟨.slice (some ⟨g + 5, 0, none⟩) 2 2, NL, NL⟩, ⟨NL, NL, NL⟩], SlC.of_block h.body 2 2 _ (by decide) (by decide) (by rw [hb]; rfl),
    SsIn.cons (SIn.mk h.kin (BIn.nil w) (BIn.nil w)) (SsIn.cons (SIn.mk (KIn.leaf _ _ _ _ _ _) (BIn.nil w) (BIn.nil w)) (SsIn.nil w))⟩
theorem sm_want (w : World) (t : TypeId) (T : Nat) (h : w.heap[T]? = some (.cells #[.int .i64 0, .int .i64 20, .int .i64 22, .int .i64 40, .int .i64 40, .int .i64 40, .int .i64 40, .int .i64 21, .int .i64 21, .int .i64 21, .int .i64 21, .int .i64 22, .int .i64 22, .int .i64 0] t (0, 0))) (k : Fin 14) : w.cell? ⟨T, k.val, none⟩ = some (.int .i64 (wantS k.val)) := by
  rw [cell_of_row w T k.val _ t (0, 0) h]
  obtain ⟨k, hk⟩ := k
  match k, hk with
  | 0, _ => rfl
  | 1, _ => rfl
  | 2, _ => rfl
  | 3, _ => rfl
  | 4, _ => rfl
  | 5, _ => rfl
  | 6, _ => rfl
  | 7, _ => rfl
  | 8, _ => rfl
  | 9, _ => rfl
  | 10, _ => rfl
  | 11, _ => rfl
  | 12, _ => rfl
  | 13, _ => rfl
/-- What is asked of the checker at case k, and what it answers. -/
def AskS (k : Nat) (x : Int) : Prop := ∀ (w' : World) (y : S5), SPIn w' (wrongS k) y → Calls Try.prog 8 #[.agg #[y.iv, y.ov, y.vv, y.cv, y.bv]] w' fun e w1 => e = .returned (.int .i64 x) ∧ Hid (Ext w' w1)
theorem ask_allS (k : Fin 14) : AskS k.val (wantS k.val) := fun w' y h => by
  have := check_any (wrongS k.val) y w' h (ok_wrong k)
  rw [chk_wrong k] at this
  exact this
set_option maxHeartbeats 4000000 in
theorem wrong_out (k : Int) (hk : I64 k) (hbad : k < 0 ∨ 14 ≤ k) (w : World) : Calls Try.prog 3 #[.int .i64 k] w fun e w' => e = .returned (.bool true) ∧ Hid (Ext w w') := by
  obtain ⟨Q, hQ⟩ : ∃ Q, Q = fun e w' => e = Ending.returned (.bool true) ∧ Hid (Ext w w') := ⟨_, rfl⟩
  rw [← hQ]
  have HQ := Lib.hid hQ
  unfold I64 at hk
  clear hQ
  rcases hbad with hb | hb
  · go_enter Try.func3, Try.ntmps3
    go_wp2_with (first | (go_at_call 5; refine (alive17_any _).mono ?_; rintro e w1 ⟨rfl, H1⟩) | fail)
    rw [HQ.out]
    exact ⟨rfl, Lib.hid (H1.out.alloc _)⟩
  · have hb2 : ¬ k < 0 := by omega
    go_enter Try.func3, Try.ntmps3
    go_wp2_with (first | (go_at_call 5; refine (alive17_any _).mono ?_; rintro e w1 ⟨rfl, H1⟩) | fail)
    rw [HQ.out]
    exact ⟨rfl, Lib.hid (H1.out.alloc _)⟩
theorem LikeS.withVars {g : Nat} {w : World} {v : Value} {l : List CV} (h : LikeS g smCs (smBs g) w) (hv : VIn w v l) : SPIn w { smallS with vars := l } ⟨.slice (some ⟨g, 0, none⟩) 1 1, .slice (some ⟨g + 1, 0, none⟩) 1 1, v, .slice (some ⟨g + 2, 0, none⟩) 1 1, .slice (some ⟨g + 7, 0, none⟩) 2 2⟩ where
  ins := h.small.ins
  outs := h.small.outs
  vars := hv
  cells := h.small.cells
  body := h.small.body
theorem LikeS.withInit {g : Nat} {w : World} {i : Int} (h : LikeS g #[.string bM, .int .i64 2, .int .i64 i] (smBs g) w) : SPIn w { smallS with cells := [⟨bM, 2, i⟩] } (smX g) where
  ins := VIn.one h.ins
  outs := VIn.one h.outs
  vars := VIn.nil w
  cells := CIn.one h.cells
  body := ⟨[⟨.slice (some ⟨g + 5, 0, none⟩) 2 2, NL, NL⟩, ⟨NL, NL, NL⟩], SlC.of_block h.body 2 2 _ (by decide) (by decide) rfl,
    SsIn.cons (SIn.mk h.kin (BIn.nil w) (BIn.nil w)) (SsIn.cons (SIn.mk (KIn.leaf _ _ _ _ _ _) (BIn.nil w) (BIn.nil w)) (SsIn.nil w))⟩
theorem LikeS.cast {g : Nat} {cs bs bs' : Array Value} {w : World} (h : LikeS g cs bs w) (e : bs = bs') : LikeS g cs bs' w := e ▸ h
theorem sixA (g : Nat) (a b c d e f : Value) : ((((((smBs g).setIfInBounds 12 a).setIfInBounds 13 b).setIfInBounds 14 c).setIfInBounds 15 d).setIfInBounds 16 e).setIfInBounds 17 f = #[.int .i64 1, .string bY, .int .i64 4, .int .i64 3, .int .i64 0, .int .i64 0, .string ⟨#[]⟩, .slice (some ⟨g + 5, 0, none⟩) 2 2, NL, NL, .int .i64 2, .string bM, a, b, c, d, e, f, NL, NL] := by kernel_rfl
theorem LikeS.six {g : Nat} {w : World} (h : LikeS g smCs (smBs g) w) (a b c d e f : Value) : LikeS g smCs #[.int .i64 1, .string bY, .int .i64 4, .int .i64 3, .int .i64 0, .int .i64 0, .string ⟨#[]⟩, .slice (some ⟨g + 5, 0, none⟩) 2 2, NL, NL, .int .i64 2, .string bM, a, b, c, d, e, f, NL, NL] ((((((w.setCell ⟨g + 7, 12, none⟩ a).setCell ⟨g + 7, 13, none⟩ b).setCell ⟨g + 7, 14, none⟩ c).setCell ⟨g + 7, 15, none⟩ d).setCell ⟨g + 7, 16, none⟩ e).setCell ⟨g + 7, 17, none⟩ f) :=
  LikeS.cast ((((((h.bset 12 a).bset 13 b).bset 14 c).bset 15 d).bset 16 e).bset 17 f) (sixA g a b c d e f)
/-- Two statements, the second one's expression with one kid that is a name. -/
theorem LikeS.twoK {g N : Nat} {bs : Array Value} {w : World} (h : LikeS g smCs bs w) {f f2 a b c d : Int} {n n2 n3 n4 : ByteArray} {t : TypeId} (hN : w.heap[N]? = some (.cells #[.int .i64 2, .int .i64 0, .int .i64 0, .int .i64 0, .string n4, NL] t (0, 0))) (hb : bs = #[.int .i64 f, .string n, .int .i64 4, .int .i64 3, .int .i64 0, .int .i64 0, .string ⟨#[]⟩, .slice (some ⟨g + 5, 0, none⟩) 2 2, NL, NL, .int .i64 f2, .string n2, .int .i64 a, .int .i64 b, .int .i64 c, .int .i64 d, .string n3, .slice (some ⟨N, 0, none⟩) 1 1, NL, NL]) :
    SPIn w (wSB [.mk f n smE [] [], .mk f2 n2 (.mk a b c d n3 [exN n4]) [] []]) (smX g) where
  ins := VIn.one h.ins
  outs := VIn.one h.outs
  vars := VIn.nil w
  cells := CIn.one h.cells
  body := ⟨[⟨.slice (some ⟨g + 5, 0, none⟩) 2 2, NL, NL⟩, ⟨.slice (some ⟨N, 0, none⟩) 1 1, NL, NL⟩], SlC.of_block h.body 2 2 _ (by decide) (by decide) (by rw [hb]; rfl),
    SsIn.cons (SIn.mk h.kin (BIn.nil w) (BIn.nil w)) (SsIn.cons (SIn.mk (KIn.of (kvs := [NL]) (SlC.of_block hN 1 1 _ (by decide) (by decide) rfl) (KsIn.cons (KIn.leaf _ _ _ _ _ _) (KsIn.nil _))) (BIn.nil w) (BIn.nil w)) (SsIn.nil w))⟩
/-- What lies beside the body. -/
structure Lk0 (g : Nat) (w : World) : Prop where
  ins : w.heap[g]? = some (.cells #[.string bX, .int .i64 2, NL] 32 (0, 0))
  outs : w.heap[g + 1]? = some (.cells #[.string bY, .int .i64 2, NL] 32 (0, 0))
  cells : w.heap[g + 2]? = some (.cells smCs 39 (0, 0))
  kids : w.heap[g + 5]? = some (.cells #[.int .i64 2, .int .i64 0, .int .i64 0, .int .i64 0, .string bM, NL, .int .i64 2, .int .i64 0, .int .i64 0, .int .i64 0, .string bX, NL] 35 (0, 0))
theorem Lk0.of {g : Nat} {bs : Array Value} {w : World} (h : LikeS g smCs bs w) : Lk0 g w := ⟨h.ins, h.outs, h.cells, h.kids⟩
theorem Lk0.kb {g : Nat} {w w' : World} {S : List Nat} (h : Lk0 g w) (hk : Kb S w w') (hS : ∀ k ∈ S, g + 5 < k) : Lk0 g w' :=
  ⟨hk.heap (fun hm => by have := hS _ hm; omega) h.ins, hk.heap (fun hm => by have := hS _ hm; omega) h.outs, hk.heap (fun hm => by have := hS _ hm; omega) h.cells, hk.heap (fun hm => by have := hS _ hm; omega) h.kids⟩
theorem Lk0.kin {g : Nat} {w : World} (h : Lk0 g w) : KIn w smE (.slice (some ⟨g + 5, 0, none⟩) 2 2) := by
  refine KIn.of (kvs := [NL, NL]) ?_ (KsIn.cons (KIn.leaf _ _ _ _ _ _) (KsIn.cons (KIn.leaf _ _ _ _ _ _) (KsIn.nil _)))
  exact SlC.of_block h.kids 2 2 _ (by decide) (by decide) rfl
theorem Lk0.sp {g : Nat} {w : World} {v : Value} {l : List ST} (h : Lk0 g w) (hb : BIn w v l) : SPIn w (wSB l) ⟨.slice (some ⟨g, 0, none⟩) 1 1, .slice (some ⟨g + 1, 0, none⟩) 1 1, NL, .slice (some ⟨g + 2, 0, none⟩) 1 1, v⟩ where
  ins := VIn.one h.ins
  outs := VIn.one h.outs
  vars := VIn.nil w
  cells := CIn.one h.cells
  body := hb
theorem infoStmt : (Try.prog.info? 37).map (fun i => (i.zero, i.size, i.bytes)) = some (some (.agg #[.int .i64 0, .string ⟨#[]⟩, .int .i64 0, .int .i64 0, .int .i64 0, .int .i64 0, .string ⟨#[]⟩, NL, NL, NL]), 10, 144) := by kernel_rfl
theorem kb_ext {w w' : World} {S : List Nat} {W : World} (hk : Kb S w w') (hx : Ext W w) (h : ∀ k ∈ S, W.heap.size ≤ k) : Ext W w' := hk.ext hx h
end Go.Proofs.Ytkjgghbdpmkmoaa

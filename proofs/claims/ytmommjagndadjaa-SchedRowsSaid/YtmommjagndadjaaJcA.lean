/-
  Plain lemmas on the walk that all texts of this seat use: a region that draws its order whose first n operations are quiet in a class of worlds (calls that make memory among them) and whose rest stands in one forced order; the class of worlds that extend a world.
  No condition.
  More steps of the walk: an append onto a slice that is full.
  No condition.
  More steps of the walk: an append of whatever slice is read, in a plain region and in one that draws its order.
  No condition.
  More steps of the walk: an append of whatever slice is read onto a slice that is full.
  No condition.
  More steps of the walk: all blocks but a few stay as they are.
  No condition.
  More steps of the walk: a copy into an owned row; cuts of slices.
  No condition.
  More steps of the walk: a store into an owned row; bytes as a string.
  No condition.
  A region that draws its order and ends in one operation that waits for all others: its head walked by hand, a condition on the world kept behind each operation of the head alone.
  No condition.
  The frame of a row for a call that leaves all that was there as it was and makes blocks of its own, of whatever kind.
  No condition.
  The frame of a row for a call that leaves all that was there as it was, whatever its arguments' types; slices of numbers opened.
  No condition.
  Plain lemmas on worlds, rows of their own, boxes and slices that the walks use.
  No condition.
  Rows of numbers that came in as an argument: how they lie in memory, none of them longer than a memory.
  No condition.
  A map keyed by strings, whatever its elements are.
  No condition.
  A map keyed by numbers, whatever its elements are.
  No condition.
  A map keyed by strings: an entry is taken, then stored to.
  No condition.
  Rows that a run tells.
  No condition.
  Rows compared: the walk.
  Conditions: the rows lie in memory.
-/
import Derived.WalkKit
import Derived.WalkSpells
import Derived.WalkLawsBesides
import Derived.StillTailTactics
import Derived.Deep.QuietTactic
import Derived.BigQuiet
import Derived.Lib.Hide
import Derived.Laws.EntriesVeiled
import Derived.Deep.WholeRow
import Derived.ArgAppend
import Derived.Deep.AppendLies
import Derived.Laws.CopyOwn
import Derived.Laws.OwnMore
import Derived.Laws.BytesArg
import Derived.Deep.RegionHeld3
import Derived.ProofKit
import Derived.OpenShut
import Derived.Carry
import Derived.Deep.Slices
import Derived.ChangeSlices
import Derived.Test.YtmommjagndadjaaChecked
import Derived.LoopN
import Derived.LoopTactic
import Derived.Deep.Cut
import Derived.WideShapes
import Derived.Deep.MidRow
import Derived.SizedLaws
import Derived.Maps.OwnSet
import Derived.Maps.RangeWalk
import Derived.WideKeyEntry
namespace Go.Proofs.Ytmommjagndadjaa
open Go.RowKit
set_option linter.unusedSimpArgs false
set_option linter.unusedVariables false
set_option maxRecDepth 100000

section
variable {P : Program} {ops : Array Oper} {md : Region.Mode} {C : World → Prop}

/-- Whatever order is picked among the first n operations, f of them still to come. -/
def HeadQ (P : Program) (md : Region.Mode) (ops : Array Oper) (C : World → Prop) (n : Nat) (L : Array Bool → Act → Prop) : Nat → Array Bool → Act → Prop
  | 0, listed, a => L listed a
  | f + 1, listed, a => Region.ready md ops listed ≠ [] ∧ ∀ i ∈ Region.ready md ops listed, i < n ∧ qOp P ops C i (HeadQ P md ops C n L f (listed.setIfInBounds i true)) a

theorem any_of_headQ {n g : Nat} {L : Array Bool → Act → Prop} {Q' : Exit → Act → World → Prop} (hL : ∀ listed a w, C w → L listed a → wpAny P md ops Q' g listed a w) :
    ∀ (f : Nat) (listed : Array Bool) (a : Act) (w : World), C w → HeadQ P md ops C n L f listed a → wpAny P md ops Q' (f + g) listed a w := by
  intro f
  induction f with
  | zero => intro listed a w hw h; rw [Nat.zero_add]; exact hL _ _ _ hw h
  | succ f ih =>
    intro listed a w hw h
    rw [show f + 1 + g = (f + g) + 1 from by omega]
    refine ⟨fun h0 => absurd h0 h.1, fun i hi => ?_⟩
    exact wpOp_of_qOp hw (fun a' w' hw' h' => ih _ a' w' hw' h') (h.2 i hi).2

theorem headQ_first {n i : Nat} {oi : Oper} {v : Value} {L : Array Bool → Act → Prop} (hi : ops[i]? = some oi) (hsel : ∀ (j : Nat) (o : Oper) cs b, ops[j]? = some o → o.op ≠ .select cs b)
    (hs : Region.sinkB md ops n = true) (hc : Region.chainB md ops n = true) (hn : n < ops.size) (hin : i < n)
    (hdone : ∀ listed a, L listed a → ∀ j ∈ Region.ready md ops listed, n ≤ j) :
    ∀ (f : Nat) (listed : Array Bool) (a : Act), HeadInv md ops n listed →
      (∀ j oj, ops[j]? = some oj → j ≠ i → listed.getD j true = false → (∀ e ∈ oj.after, Region.binds md e = true → e.on ≠ i) → oi.apart ops oj = true) →
      i ∈ Region.ready md ops listed → YieldsIn P ops C oi v a →
      HeadQ P md ops C n L f (listed.setIfInBounds i true) (a.put oi.dst v) → HeadQ P md ops C n L (f + 1) listed a := by
  intro f
  induction f with
  | zero =>
    intro listed a inv _ hr hy H
    refine ⟨fun h => (by rw [h] at hr; cases hr), fun j hj => ?_⟩
    have hun := (mem_ready.1 hr).1
    by_cases hjn : j < n
    · refine ⟨hjn, ?_⟩
      by_cases hji : j = i
      · subst hji; exact hy.qOp hi H
      · have := hdone _ _ H j (ready_mono hj hji)
        omega
    · exact absurd hj (tail_waits hs hc hn inv _ i rfl hin hun j (by omega))
  | succ f ih =>
    intro listed a inv hfree hr hy H
    refine ⟨fun h => (by rw [h] at hr; cases hr), fun j hj => ?_⟩
    have hun := (mem_ready.1 hr).1
    by_cases hjn : j < n
    · refine ⟨hjn, ?_⟩
      by_cases hji : j = i
      · subst hji; exact hy.qOp hi H
      · obtain ⟨hjun, oj, hoj, hall⟩ := mem_ready.1 hj
        have hnot : ∀ e ∈ oj.after, Region.binds md e = true → e.on ≠ i := fun e he hb heq => by
          have h3 := hall e he hb
          rw [heq, getD_both hun] at h3
          cases h3
        have h2 := qOp_put hoj (hfree j oj hoj hji hjun hnot) (fun cs b => hsel i oi cs b hi) (fun cs b => hsel j oj cs b hoj) hy (H.2 j (ready_mono hj hji)).2
        refine qOp_mono (fun a' h3 => ih (listed.setIfInBounds j true) a' (inv.set hj hjn) (fun k ok hk hki hku hno => hfree k ok hk hki ?_ hno) (ready_mono hr (Ne.symm hji)) h3.1 ?_) h2
        · by_cases hjk : j = k
          · subst hjk; exact hjun
          · rw [getD_set_ne true hjk] at hku; exact hku
        · rw [Array.setIfInBounds_comm _ _ hji]
          exact h3.2
    · exact absurd hj (tail_waits hs hc hn inv _ i rfl hin hun j (by omega))

theorem headQ_lex {n g : Nat} {Lq : Act → Prop} (hsel : Region.noSelect ops = true) (hs : Region.sinkB md ops n = true) (hc : Region.chainB md ops n = true) (hn : n < ops.size) :
    ∀ (l : List Oper) (k : Nat) (listed : Array Bool) (a : Act), (∀ j, j < l.length → l[j]? = ops[k + j]?) → k + l.length = n → HeadInv md ops n listed →
    Region.lexHead md ops g l.length k listed = true → wpQuiet P ops C Lq l a →
    HeadQ P md ops C n (fun listed' a' => Region.seqB md ops g n listed' = true ∧ Lq a') l.length listed a := by
  intro l
  induction l with
  | nil =>
    intro k listed a _ hk _ hB h
    obtain rfl : k = n := by simpa using hk
    exact ⟨by simpa [Region.lexHead] using hB, h⟩
  | cons o l ih =>
    intro k listed a hl hk inv hB h
    have h0 : ops[k]? = some o := by simpa using (hl 0 (by simp)).symm
    simp only [List.length_cons, Region.lexHead, Bool.and_eq_true] at hB
    have hkn : k < n := by simp only [List.length_cons] at hk; omega
    have hr : k ∈ Region.ready md ops listed := by simpa using hB.1.1
    have hst : qOp P ops C k (wpQuiet P ops C Lq l) a := by unfold qOp; simp only [h0]; exact h
    obtain ⟨v, hy, hK⟩ := yieldsIn_of_qOp h0 hst
    refine headQ_first h0 (Region.noSelect_spec hsel) hs hc hn hkn (fun listed' a' hL => seqB_ready hL.1) l.length listed a inv (Region.free_spec h0 hB.1.2) hr hy (ih (k + 1) _ _ (fun j hj => ?_) (by simp only [List.length_cons] at hk; omega) (inv.set hr hkn) hB.2 hK)
    have := hl (j + 1) (by simp; omega)
    simpa [Nat.add_assoc, Nat.add_comm 1 j] using this

/-- A REGION THAT DRAWS ITS ORDER: the first n operations are quiet in the class C, the rest stands in one order behind them. -/
theorem region_class_tail {id : Nat} {Q : Exit → Act → World → Prop} {a : Act} {w : World} {l : List Oper} (C : World → Prop) (n : Nat) (hm : P.follows .mixedOrders = true) (hB : Region.lexTailB .any l.toArray n = true)
    (hC : C w.drew) (h : wpQuiet P l.toArray C (fun a' => ∀ w', C w' → wpList P l.toArray Q (l.drop n) a' w') (l.take n) a) : (Code.region id l.toArray true).wp P Q a w := by
  simp only [Region.lexTailB, Bool.and_eq_true, decide_eq_true_eq] at hB
  obtain ⟨⟨⟨⟨hsel, hn⟩, hs⟩, hc⟩, hlex⟩ := hB
  have hn' : n < l.length := by simpa using hn
  have htl : (l.take n).length = n := by simp; omega
  have hdl : (l.drop n).length = l.toArray.size - n := by simp
  have inv0 : HeadInv .any l.toArray n (Array.replicate l.toArray.size false) :=
    ⟨by simp, fun j oj _ hl => (by rw [getD_replicate_false] at hl; cases hl), fun t _ ht => getD_in (by simpa using ht) (getD_replicate_false _ _)⟩
  have H := headQ_lex (md := .any) (g := l.toArray.size - n) hsel hs hc hn (l.take n) 0 _ a (fun j hj => by
    have hj' : j < n := by rw [htl] at hj; exact hj
    simp [hj']) (by simpa using htl) inv0 (by rw [htl]; exact hlex) h
  refine wp_region_any hm ?_
  have := any_of_headQ (Q' := Q) (g := l.toArray.size - n) (fun listed a' w' hw' hL => by
    have := wpAny_of_seq (md := .any) (Q' := Q) (l.drop n) n listed a' w' (fun j => by simp [List.getElem?_drop]) (by rw [hdl]; exact hL.1) (hL.2 w' hw')
    rwa [hdl] at this) _ _ _ _ hC H
  rw [htl, show n + (l.toArray.size - n) = l.toArray.size from by omega] at this
  exact this

/-- The same where the whole region is quiet in the class. -/
theorem region_class {id : Nat} {Q : Exit → Act → World → Prop} {a : Act} {w : World} {l : List Oper} (C : World → Prop) (hm : P.follows .mixedOrders = true) (hB : Region.lexB .any l.toArray = true)
    (hC : C w.drew) (h : wpQuiet P l.toArray C (fun a' => ∀ w', C w' → Q .normal a' w') l a) : (Code.region id l.toArray true).wp P Q a w :=
  wp_region_quiet (C := C) hm hB hC (by simpa using h)

/-- One operation without a guard: one value in every world of the class. -/
theorem quiet_ex {Q : Act → Prop} {a : Act} {o : Oper} {rest : List Oper} (hg : o.guard = none) (h : ∃ v, (∀ w, C w → o.quietAt P a C w v) ∧ wpQuiet P ops C Q rest (a.put o.dst v)) : wpQuiet P ops C Q (o :: rest) a := by
  unfold wpQuiet
  rw [if_pos (by simp [Region.wanted, hg])]
  exact h

/-- One operation without a guard: v in every world of the class. -/
theorem quiet_one {Q : Act → Prop} {a : Act} {o : Oper} {rest : List Oper} (v : Value) (hg : o.guard = none) (hv : ∀ w, C w → o.quietAt P a C w v) (h : wpQuiet P ops C Q rest (a.put o.dst v)) : wpQuiet P ops C Q (o :: rest) a := by
  unfold wpQuiet
  rw [if_pos (by simp [Region.wanted, hg])]
  exact ⟨v, hv, h⟩

end

/-- A REGION WHOSE FIRST n OPERATIONS LEAVE THE WORLD AS IT IS. -/
theorem region_tail {P : Program} {id : Nat} {Q : Exit → Act → World → Prop} {a : Act} {w : World} {l : List Oper} (n : Nat) (hm : P.follows .mixedOrders = true) (hB : Region.lexTailB .any l.toArray n = true)
    (h : wpStill P l.toArray w.drew (fun a' => wpList P l.toArray Q (l.drop n) a' w.drew) (l.take n) a) : (Code.region id l.toArray true).wp P Q a w :=
  wp_region_still_tail n hm hB h

theorem region_still {P : Program} {id : Nat} {Q : Exit → Act → World → Prop} {a : Act} {w : World} {l : List Oper} (hm : P.follows .mixedOrders = true) (hB : Region.lexB .any l.toArray = true)
    (h : wpStill P l.toArray w.drew (fun a' => Q .normal a' w.drew) l a) : (Code.region id l.toArray true).wp P Q a w :=
  wp_region_still_lit hm hB h

theorem still_in {P : Program} {f : FuncId} {args : Array Value} {w : World} {v : Value} (h : Calls P f args w fun e w' => e = .returned v ∧ w = w') :
    Calls P f args w (fun e w' => e = .returned v ∧ w' = w) := h.mono fun _ _ ⟨a, b⟩ => ⟨a, b.symm⟩

theorem ret_int {k : IntKind} {a b : Int} (h : a = b) : Ending.returned (.int k a) = .returned (.int k b) := by rw [h]
theorem ret_bool {a b : Bool} (h : a = b) : Ending.returned (.bool a) = .returned (.bool b) := by rw [h]

/-- The world behind is the world ahead, with more behind its end. -/
def Ext (w w' : World) : Prop := Below w.heap.size w w'
theorem Ext.refl (w : World) : Ext w w := Below.refl _ _
theorem Ext.of_eq {w w' : World} (h : w = w') : Ext w w' := h ▸ Ext.refl w
theorem Ext.size {w w' : World} (h : Ext w w') : w.heap.size ≤ w'.heap.size := Below.size h
theorem Ext.trans {a b c : World} (h : Ext a b) (k : Ext b c) : Ext a c := Below.trans h (Below.mono k h.size)
theorem Ext.drew {a b : World} (h : Ext a b) : Ext a b.drew := Below.drew h
theorem Ext.alloc {a b : World} (h : Ext a b) (o : Obj) : Ext a (b.alloc o) := Below.alloc h h.size o
theorem Ext.setCell {a b : World} (h : Ext a b) {p : Addr} (hp : a.heap.size ≤ p.block) (u : Value) : Ext a (b.setCell p u) := Below.setCell h hp u
theorem Ext.cell {w w' : World} (h : Ext w w') {p : Addr} {v : Value} (hc : w.cell? p = some v) : w'.cell? p = some v :=
  (Below.cell h (World.block_lt_of_cell? w p hc)).trans hc
theorem Ext.cells {w w' : World} (h : Ext w w') (b o : Nat) (hb : b < w.heap.size) : w'.cell? ⟨b, o, none⟩ = w.cell? ⟨b, o, none⟩ := Below.cell (p := ⟨b, o, none⟩) h hb
theorem Ext.frozens {w w' : World} (h : Ext w w') (b o : Nat) (hb : b < w.heap.size) : w'.frozen? ⟨b, o, none⟩ = w.frozen? ⟨b, o, none⟩ := Below.frozen (p := ⟨b, o, none⟩) h hb
/-- What a caller's own walk wants of a callee's world. -/
theorem Ext.view {w w' : World} (h : Ext w w') : (∀ b o, b < w.heap.size → w'.cell? ⟨b, o, none⟩ = w.cell? ⟨b, o, none⟩) ∧ (∀ b o, b < w.heap.size → w'.frozen? ⟨b, o, none⟩ = w.frozen? ⟨b, o, none⟩) := ⟨h.cells, h.frozens⟩
theorem Ext.below {w w' : World} (h : Ext w w') {B : Nat} (hB : B ≤ w.heap.size) : Below B w w' := Below.mono h hB
/-- WORLDS THAT EXTEND A WORLD, BY A TOKEN: 'W.extBy t' is some world that extends W by t.n blocks; whatever extends W is one. -/
structure Tok where
  w : World
  n : Nat
theorem tok_nonempty (W : World) : Nonempty Tok := ⟨⟨W, 0⟩⟩
instance : Nonempty Tok := tok_nonempty default
open Classical in
noncomputable def _root_.Go.World.extBy (W : World) (t : Tok) : World :=
  if Ext W t.w ∧ t.w.heap.size = W.heap.size + t.n then t.w else { W with heap := W.heap ++ Array.replicate t.n default }
theorem ext_pad (W : World) (n : Nat) : Ext W { W with heap := W.heap ++ Array.replicate n default } := by
  refine ⟨rfl, rfl, rfl, by simp, fun k hk => ?_⟩
  show (W.heap ++ Array.replicate n default)[k]? = _
  rw [Array.getElem?_append_left hk]
theorem Ext.by (W : World) (t : Tok) : Ext W (W.extBy t) := by
  unfold World.extBy
  split
  · rename_i h; exact h.1
  · exact ext_pad W t.n
@[go_sem, simp] theorem size_extBy (W : World) (t : Tok) : (W.extBy t).heap.size = W.heap.size + t.n := by
  unfold World.extBy
  split
  · rename_i h; exact h.2
  · simp
theorem Ext.tok {W w : World} (h : Ext W w) : ∃ t, w = W.extBy t := by
  refine ⟨⟨w, w.heap.size - W.heap.size⟩, ?_⟩
  unfold World.extBy
  rw [if_pos ⟨h, by have := h.size; simp only; omega⟩]
theorem Ext.tok2 {W w : World} {t : Tok} (h : Ext (W.extBy t) w) : ∃ t', w = W.extBy t' := ((Ext.by W t).trans h).tok
@[go_sem] theorem cell?_extBy (W : World) (t : Tok) (b o : Nat) (hb : b < W.heap.size) : (W.extBy t).cell? ⟨b, o, none⟩ = W.cell? ⟨b, o, none⟩ := (Ext.by W t).cells b o hb
@[go_sem] theorem frozen?_extBy (W : World) (t : Tok) (b o : Nat) (hb : b < W.heap.size) : (W.extBy t).frozen? ⟨b, o, none⟩ = W.frozen? ⟨b, o, none⟩ := (Ext.by W t).frozens b o hb
@[go_sem] theorem lt_tok (a b : Nat) (t : Tok) (h : a < b) : a < b + t.n := Nat.lt_of_lt_of_le h (Nat.le_add_right _ _)
@[go_sem] theorem le_tok (a b : Nat) (t : Tok) (h : a ≤ b) : a ≤ b + t.n := Nat.le_trans h (Nat.le_add_right _ _)
@[go_sem] theorem ne_tok (a b : Nat) (t : Tok) (h : a < b) : (a = b + t.n) = False := eq_false (by omega)
@[go_sem] theorem ne_tok' (a b : Nat) (t : Tok) (h : a < b) : (b + t.n = a) = False := eq_false (by omega)
theorem heap_extBy (W : World) (t : Tok) (b : Nat) (hb : b < W.heap.size) : (W.extBy t).heap[b]? = W.heap[b]? := Below.block (Ext.by W t) b hb
theorem Ext.extBy {a b : World} (h : Ext a b) (t : Tok) : Ext a (b.extBy t) := h.trans (Ext.by b t)
theorem Below.extBy {B : Nat} {a b : World} (h : Below B a b) (hB : B ≤ b.heap.size) (t : Tok) : Below B a (b.extBy t) := Below.trans h ((Ext.by b t).below hB)
theorem tok_self (W : World) : ∃ t, W = W.extBy t := (Ext.refl W).tok
theorem tok_of_drew (W : World) : ∃ t, W.drew = W.extBy t := (Ext.refl W).drew.tok

/-- A region that draws its order and whose operations are quiet in the worlds that extend the world ahead of it. -/
theorem region_ext {P : Program} {id : Nat} {Q : Exit → Act → World → Prop} {a : Act} {w : World} {l : List Oper} (hm : P.follows .mixedOrders = true) (hB : Region.lexB .any l.toArray = true)
    (h : wpQuiet P l.toArray (fun w' => ∃ t, w' = w.extBy t) (fun a' => ∀ w', (∃ t, w' = w.extBy t) → Q .normal a' w') l a) : (Code.region id l.toArray true).wp P Q a w :=
  region_class _ hm hB (tok_of_drew w) h
theorem region_ext_tail {P : Program} {id : Nat} {Q : Exit → Act → World → Prop} {a : Act} {w : World} {l : List Oper} (n : Nat) (hm : P.follows .mixedOrders = true) (hB : Region.lexTailB .any l.toArray n = true)
    (h : wpQuiet P l.toArray (fun w' => ∃ t, w' = w.extBy t) (fun a' => ∀ w', (∃ t, w' = w.extBy t) → wpList P l.toArray Q (l.drop n) a' w') (l.take n) a) : (Code.region id l.toArray true).wp P Q a w :=
  region_class_tail _ n hm hB (tok_of_drew w) h
theorem region_ext2 {P : Program} {id : Nat} {Q : Exit → Act → World → Prop} {a : Act} {w : World} {t : Tok} {l : List Oper} (hm : P.follows .mixedOrders = true) (hB : Region.lexB .any l.toArray = true)
    (h : wpQuiet P l.toArray (fun w' => ∃ t, w' = w.extBy t) (fun a' => ∀ w', (∃ t, w' = w.extBy t) → Q .normal a' w') l a) : (Code.region id l.toArray true).wp P Q a (w.extBy t) :=
  region_class _ hm hB (Ext.by w t).drew.tok h
theorem region_ext_tail2 {P : Program} {id : Nat} {Q : Exit → Act → World → Prop} {a : Act} {w : World} {t : Tok} {l : List Oper} (n : Nat) (hm : P.follows .mixedOrders = true) (hB : Region.lexTailB .any l.toArray n = true)
    (h : wpQuiet P l.toArray (fun w' => ∃ t, w' = w.extBy t) (fun a' => ∀ w', (∃ t, w' = w.extBy t) → wpList P l.toArray Q (l.drop n) a' w') (l.take n) a) : (Code.region id l.toArray true).wp P Q a (w.extBy t) :=
  region_class_tail _ n hm hB (Ext.by w t).drew.tok h
theorem Ext.drewN {a b : World} (h : Ext a b) (n : Nat) : Ext a (b.drewN n) := Below.trans h ⟨rfl, rfl, rfl, Nat.le_refl _, fun _ _ => rfl⟩
/-- A region that draws its order and only reads. -/
theorem region_drew {P : Program} {id : Nat} {Q : Exit → Act → World → Prop} {a : Act} {w : World} {l : List Oper} (hm : P.follows .mixedOrders = true) (hB : Region.lexB .any l.toArray = true)
    (h : wpQuiet P l.toArray (fun w' => ∃ n, w' = w.drewN n) (fun a' => ∀ w', (∃ n, w' = w.drewN n) → Q .normal a' w') l a) : (Code.region id l.toArray true).wp P Q a w :=
  region_class _ hm hB ⟨1, rfl⟩ h
theorem region_drew_tail {P : Program} {id : Nat} {Q : Exit → Act → World → Prop} {a : Act} {w : World} {l : List Oper} (n : Nat) (hm : P.follows .mixedOrders = true) (hB : Region.lexTailB .any l.toArray n = true)
    (h : wpQuiet P l.toArray (fun w' => ∃ n, w' = w.drewN n) (fun a' => ∀ w', (∃ n, w' = w.drewN n) → wpList P l.toArray Q (l.drop n) a' w') (l.take n) a) : (Code.region id l.toArray true).wp P Q a w :=
  region_class_tail _ n hm hB ⟨1, rfl⟩ h
theorem in_drew {P : Program} {f : FuncId} {args : Array Value} {W : World} {n : Nat} {v : Value} (h : Calls P f args (W.drewN n) fun e w' => e = .returned v ∧ W.drewN n = w') :
    Calls P f args (W.drewN n) (fun e w' => e = .returned v ∧ ∃ m, w' = W.drewN m) := h.mono fun _ _ hh => ⟨hh.1, n, hh.2.symm⟩
/-- A callee's contract, met in a world of the class. -/
theorem in_same {P : Program} {f : FuncId} {args : Array Value} {W : World} {t : Tok} {v : Value} (h : Calls P f args (W.extBy t) fun e w' => e = .returned v ∧ W.extBy t = w') :
    Calls P f args (W.extBy t) (fun e w' => e = .returned v ∧ ∃ t', w' = W.extBy t') := h.mono fun _ _ hh => ⟨hh.1, t, hh.2.symm⟩
theorem in_ext {P : Program} {f : FuncId} {args : Array Value} {W : World} {t : Tok} {v : Value} (h : Calls P f args (W.extBy t) fun e w' => e = .returned v ∧ Ext (W.extBy t) w') :
    Calls P f args (W.extBy t) (fun e w' => e = .returned v ∧ ∃ t', w' = W.extBy t') := h.mono fun _ _ hh => ⟨hh.1, ((Ext.by W t).trans hh.2).tok⟩
/-- A contract that leaves the world alone, as one that extends it. -/
theorem ext_of_same {P : Program} {f : FuncId} {args : Array Value} {w : World} {v : Value} (h : Calls P f args w fun e w' => e = .returned v ∧ w = w') :
    Calls P f args w (fun e w' => e = .returned v ∧ Ext w w') := h.mono fun _ _ hh => ⟨hh.1, Ext.of_eq hh.2⟩

theorem heap_alloc_at (w : World) (o : Obj) (n : Nat) (h : n = w.heap.size) : (w.alloc o).heap[n]? = some o := by subst h; exact heap_alloc_last w o
/-- A whole row stored into the block that was made last. -/
theorem wpList_store_last {P : Program} {ops : Array Oper} {rest : List Oper} {o : Oper} {a : Act} {w : World} {Q : Exit → Act → World → Prop} (hgd : o.guard = none) (ty : TypeId) (x y : Operand) (ho : o.op = .store ty x y)
    (n : Nat) (cells old : Array Value) (t : TypeId) (hx : a.eval x = .pointer (some ⟨n, 0, none⟩)) (hy : a.eval y = .agg cells) (hn : n = w.heap.size) (hi : (P.info? ty).map (·.size) = some cells.size)
    (hold : old.size = cells.size) (h1 : cells.all (·.oneCell') = true)
    (h : wpList P ops Q rest (a.put o.dst undef) (w.alloc (.cells cells t))) : wpList P ops Q (o :: rest) a (w.alloc (.cells old t)) := by
  subst hn
  refine wpList_store_row hgd ty x y ho _ cells hx hy t old (heap_alloc_last _ _) hi hold h1 ?_
  rw [World.setRow_alloc_new]
  exact h
/-- A SLICE THAT IS READ: its value, its length, its cells. -/
def SlC (w : World) (v : Value) (n : Nat) (cs : List Value) : Prop :=
  ∃ a cap, v = .slice a n cap ∧ n ≤ cap ∧ cap ≤ maxLen ∧ ∀ j u, cs[j]? = some u → ∃ b o, a = some ⟨b, o, none⟩ ∧ w.cell? ⟨b, o + j, none⟩ = some u
theorem SlC.ext {w w' : World} {v : Value} {n : Nat} {cs : List Value} (h : SlC w v n cs) (hx : Ext w w') : SlC w' v n cs := by
  obtain ⟨a, cap, h1, h2, h3, h4⟩ := h
  exact ⟨a, cap, h1, h2, h3, fun j u hu => let ⟨b, o, e1, e2⟩ := h4 j u hu; ⟨b, o, e1, hx.cell e2⟩⟩
theorem SlC.below {B : Nat} {w w' : World} {v : Value} {n : Nat} {cs : List Value} (h : SlC w v n cs) (hB : w.heap.size ≤ B) (hx : Below B w w') : SlC w' v n cs := h.ext (Below.mono hx hB)
theorem SlC.of_owns {w : World} {base : Nat} {e : TypeId} {size : Nat} {v : Value} {n : Nat} {xs : List Value} (h : w.ownsRow base e size v n xs) : SlC w v n xs := by
  rcases h.2 with ⟨rfl, rfl⟩ | ⟨g, cap, cur, rfl, hb, hg, hnc, hcm, hcs, htake⟩
  · have hx : xs = [] := List.eq_nil_of_length_eq_zero (by simpa using h.1)
    subst hx
    exact ⟨none, 0, rfl, Nat.le_refl _, Nat.zero_le _, fun j u hu => by simp at hu⟩
  · refine ⟨some ⟨g, 0, none⟩, cap, rfl, hnc, hcm, fun j u hu => ⟨g, 0, rfl, ?_⟩⟩
    rw [Nat.zero_add, cell_of_row w g j cur e (0, 0) hg]
    rw [← htake, List.getElem?_take] at hu
    split at hu
    · simpa using hu
    · cases hu
theorem ownsRow_ext {w w' : World} {base : Nat} {e : TypeId} {size : Nat} {v : Value} {n : Nat} {xs : List Value} (h : w.ownsRow base e size v n xs) (hx : Ext w w') : w'.ownsRow base e size v n xs :=
  h.kept (row := none) ⟨hx.os, hx.tape, hx.output, hx.size, fun k hk _ => Below.block hx k hk⟩ (by cases hv : v.ownBlock <;> simp)
theorem ownsRow_base {w : World} {base base' : Nat} {e : TypeId} {size : Nat} {v : Value} {n : Nat} {xs : List Value} (h : w.ownsRow base e size v n xs) (hb : base' ≤ base) : w.ownsRow base' e size v n xs :=
  ⟨h.1, h.2.imp id fun ⟨g, cap, cur, h1, h2, r⟩ => ⟨g, cap, cur, h1, Nat.le_trans hb h2, r⟩⟩
/-- An owned row that holds something begins at the head of a block. -/
theorem ownsRow_some {w : World} {base : Nat} {e : TypeId} {size : Nat} {v : Value} {n : Nat} {xs : List Value} (h : w.ownsRow base e size v n xs) (hn : 0 < n) : ∃ g cap, v = .slice (some ⟨g, 0, none⟩) n cap ∧ base ≤ g ∧ n ≤ cap ∧ g < w.heap.size := by
  rcases h.2 with ⟨_, rfl⟩ | ⟨g, cap, cur, rfl, hb, hg, hnc, _⟩
  · omega
  · exact ⟨g, cap, rfl, hb, hnc, (Array.getElem?_eq_some_iff.1 hg).1⟩
theorem cell_alloc_list (w : World) (news : Array Value) (e : TypeId) (n : Nat) (hn : n = w.heap.size) : ∀ j u, news.toList[j]? = some u → (w.alloc (.cells news e)).cell? ((⟨n, 0, none⟩ : Addr).add j) = some u := by
  intro j u hu
  subst hn
  have hadd : (⟨w.heap.size, 0, none⟩ : Addr).add j = ⟨w.heap.size, j, none⟩ := by unfold Addr.add; split <;> simp_all
  rw [hadd, cell_of_row _ _ j news e (0, 0) (heap_alloc_last w _)]
  simpa using hu
/-- 'append(s, x, ..)': what is appended lies in the block that was made last. -/
theorem wpList_append_lit {P : Program} {ops : Array Oper} {rest : List Oper} {o : Oper} {a : Act} {wr : World} {Q : Exit → Act → World → Prop} (hgd : o.guard = none) (s x : Operand) (t e : TypeId)
    (ho : o.op = .call { callee := .builtin .append, args := #[s, x], argTypes := #[t, t] }) (z : Value) (size bytes : Nat) (ht : P.underlying t = some (.slice e))
    (hinfo : (P.info? e).map (fun i => (i.zero, i.size, i.bytes)) = some (some z, size, bytes)) (hzs : z.cells.size = size) (hsz : 0 < size)
    (base : Nat) (v : Value) (n : Nat) (xs : List Value) (hs : a.eval s = v) (hown : wr.ownsRow base e size v n xs) (m c nb : Nat) (news : Array Value)
    (hx : a.eval x = .slice (some ⟨nb, 0, none⟩) m c) (hnb : nb = wr.heap.size) (hl : news.size = m * size) (h1 : news.all (·.oneCell') = true)
    (h63 : n + m ≤ maxLen) (hbytes : (n + m) * bytes ≤ 140737488355328) (hbase : base ≤ wr.heap.size)
    (h : ∀ v' w', w'.ownsRow base e size v' (n + m) (xs ++ news.toList) → (wr.alloc (.cells news e)).grownBy w' v.ownBlock → Below base wr w' → wpList P ops Q rest (a.put o.dst v') w') :
    wpList P ops Q (o :: rest) a (wr.alloc (.cells news e)) := by
  obtain ⟨i0, hi, hz0, hz1, hz2⟩ := info_parts hinfo
  refine wpList_append_own _ hgd s x t ho base e i0 z size bytes ht hi hz0 hz1 hz2 hzs hsz v n xs hs (hown.alloc _) ⟨nb, 0, none⟩ m c news.toList hx (by simpa using hl) (cell_alloc_list _ _ _ _ hnb)
    (fun u hu => (Array.all_eq_true_iff_forall_mem.1 h1) u (by simpa using hu)) h63 hbytes (by simp; omega) ?_
  intro v' w' hown' hg _
  refine h v' w' hown' hg ?_
  refine Below.grown ((Below.refl base wr).alloc hbase _) hg (by simp; omega) (fun k hk => (hown.lt k hk).1)
/-- A result that lies in one row of memory. -/
theorem ret_row {P : Program} {fn : Func} {R : Ending → World → Prop} {a : Act} {w : World} {p : Tmp} {ty : TypeId} (h : fn.results = #[.cell p ty]) (n : Nat) (t : TypeId) (cs : Array Value) (d : TypeDesc)
    (hp : a.tmps.getD p undef = .pointer (some ⟨n, 0, none⟩)) (hg : w.heap[n]? = some (.cells cs t (0, 0)))
    (hu : P.underlying ty = some d) (hd : (match d with | .struct _ | .array _ _ => true | _ => false) = true) (hi : (P.info? ty).map (·.size) = some cs.size) (hdf : a.defers = [])
    (hR : R (.returned (.agg cs)) w) : bodyPost P fn R .ret a w :=
  bodyPost_ret (results_cell_row h _ _ _ _ _ _ _ hp hg hu hd hi) hdf hR
end Go.Proofs.Ytmommjagndadjaa
namespace Go.Proofs.Ytmommjagndadjaa
open Go.RowKit
set_option linter.unusedSimpArgs false
set_option linter.unusedVariables false
set_option maxRecDepth 100000

/-- 'append(s[:len(s):len(s)], x, ..)': the slice is full, so its cells move to a block of their own. -/
theorem wpList_grow_lit {P : Program} {ops : Array Oper} {rest : List Oper} {o : Oper} {a : Act} {wr : World} {Q : Exit → Act → World → Prop} (hgd : o.guard = none) (s x : Operand) (t e : TypeId)
    (ho : o.op = .call { callee := .builtin .append, args := #[s, x], argTypes := #[t, t] }) (z : Value) (size bytes : Nat) (ht : P.underlying t = some (.slice e))
    (hinfo : (P.info? e).map (fun i => (i.zero, i.size, i.bytes)) = some (some z, size, bytes)) (hzs : z.cells.size = size) (hsz : 0 < size)
    (ao : Option Addr) (n : Nat) (olds : List Value) (hs : a.eval s = .slice ao n n) (hnone : ao = none → n = 0) (hlo : olds.length = n * size) (holds : ∀ b, ao = some b → ∀ j u, olds[j]? = some u → wr.cell? (b.add j) = some u)
    (m c nb : Nat) (news : Array Value) (hx : a.eval x = .slice (some ⟨nb, 0, none⟩) m c) (hnb : nb = wr.heap.size) (hl : news.size = m * size) (h1 : news.all (·.oneCell') = true) (hm : 0 < m)
    (h63 : n + m ≤ maxLen) (hbytes : (n + m) * bytes ≤ 140737488355328)
    (h : ∀ v' w', w'.ownsRow wr.heap.size e size v' (n + m) (olds ++ news.toList) → Ext wr w' → wpList P ops Q rest (a.put o.dst v') w') :
    wpList P ops Q (o :: rest) a (wr.alloc (.cells news e)) := by
  obtain ⟨i0, hi, hz0, hz1, hz2⟩ := info_parts hinfo
  refine wpList_append_grows _ hgd s x t ho e i0 z size bytes ht hi hz0 hz1 hz2 hzs hsz ao n n olds hs (fun h0 => ⟨hnone h0, hnone h0⟩) hlo (fun b hb j u hu => ?_) ⟨nb, 0, none⟩ m c news.toList hx (by simpa using hl) (cell_alloc_list _ _ _ _ hnb)
    (fun u hu => (Array.all_eq_true_iff_forall_mem.1 h1) u (by simpa using hu)) (by omega) h63 hbytes ?_
  · exact ((Ext.refl wr).alloc _).cell (holds b hb j u hu)
  · intro v' w' hown' hg
    refine h v' w' (ownsRow_base hown' (by simp)) ?_
    exact Below.grown ((Ext.refl wr).alloc _) hg (by simp) (fun k hk => by simp at hk)
end Go.Proofs.Ytmommjagndadjaa
namespace Go.Proofs.Ytmommjagndadjaa
open Go.RowKit
set_option linter.unusedSimpArgs false
set_option linter.unusedVariables false
set_option maxRecDepth 100000

theorem own_nil (w : World) (base : Nat) (e : TypeId) (size : Nat) : w.ownsRow base e size (.slice none 0 0) 0 [] := ⟨by simp, .inl ⟨rfl, rfl⟩⟩
theorem ext_grown_nil {w w' : World} (h : w.grownBy w' (Value.slice none 0 0).ownBlock) : Ext w w' := Below.grown (Ext.refl w) h (Nat.le_refl _) (fun k hk => by simp [Value.ownBlock] at hk)
theorem below_grown {B base : Nat} {W w w' : World} {e : TypeId} {size n : Nat} {v : Value} {xs : List Value} (h : Below B W w) (hB : B ≤ base) (hs : base ≤ w.heap.size) (hown : w.ownsRow base e size v n xs) (hg : w.grownBy w' v.ownBlock) : Below B W w' :=
  Below.grown h hg (by omega) (fun k hk => by have := (hown.lt k hk).1; omega)
theorem slc_nil {w : World} {v : Value} {m size : Nat} {news : List Value} (h : SlC w v m news) (hl : news.length = m * size) (hsz : 0 < size) : (∃ ad c, v = .slice (some ad) m c ∧ ∀ j u, news[j]? = some u → w.cell? (ad.add j) = some u) ∨ (∃ c, v = .slice none 0 c ∧ m = 0 ∧ news = []) := by
  obtain ⟨a, cap, rfl, _, _, hc⟩ := h
  cases a with
  | some ad =>
    refine .inl ⟨ad, cap, rfl, fun j u hu => ?_⟩
    obtain ⟨b, o, e, hcell⟩ := hc j u hu
    obtain rfl := Option.some.inj e
    have e2 : (⟨b, o, none⟩ : Addr).add j = ⟨b, o + j, none⟩ := by
      unfold Addr.add; split
      · next h0 => have : j = 0 := by simpa using h0
                   rw [this]; rfl
      · rfl
    rw [e2]; exact hcell
  | none =>
    have hn : news = [] := by
      cases news with
      | nil => rfl
      | cons x l => obtain ⟨b, o, e, _⟩ := hc 0 x (by simp); cases e
    subst hn
    have hm : m = 0 := by
      rcases Nat.eq_zero_or_pos m with h0 | h0
      · exact h0
      · have := Nat.mul_pos h0 hsz; simp at hl; omega
    subst hm
    exact .inr ⟨cap, rfl, rfl, rfl⟩

section
variable {P : Program} (w : World)
theorem run_append_slc (base : Nat) (t ty e : TypeId) (z : Value) (size bytes : Nat) (ht : P.underlying t = some (.slice e)) (hinfo : (P.info? e).map (fun i => (i.zero, i.size, i.bytes)) = some (some z, size, bytes)) (hzs : z.cells.size = size) (hsz : 0 < size)
    (v : Value) (n : Nat) (xs : List Value) (hown : w.ownsRow base e size v n xs) (xv : Value) (m : Nat) (news : List Value) (hx : SlC w xv m news) (hl : news.length = m * size) (h1 : ∀ u ∈ news, u.oneCell' = true)
    (h63 : n + m ≤ maxLen) (hbytes : (n + m) * bytes ≤ 140737488355328) (hbase : base ≤ w.heap.size) :
    ∃ v' w', (Builtin.append_ #[t, t] ty #[v, xv]).run P w = .ok v' w' ∧ w'.ownsRow base e size v' (n + m) (xs ++ news) ∧ w.grownBy w' v.ownBlock ∧ (v'.ownBlock = v.ownBlock ∨ v'.ownBlock = some w.heap.size) := by
  obtain ⟨i, hi, hz, hsize, hby⟩ := info_parts hinfo
  rcases slc_nil hx hl hsz with ⟨ad, c, rfl, hcells⟩ | ⟨c, rfl, rfl, rfl⟩
  · obtain ⟨v', w', h, h2, h3, _, h5⟩ := run_append_own_at (P := P) w base t ty e i z size bytes ht hi hz hsize hby hzs hsz v n xs hown ad m c news hl hcells h1 h63 hbytes hbase
    exact ⟨v', w', h, h2, h3, h5⟩
  · refine ⟨v, w, ?_, by simpa using hown, World.grownBy.refl w _, .inl rfl⟩
    rcases hown.2 with ⟨rfl, rfl⟩ | ⟨g, cap, cur, rfl, _, _, hnc, _⟩
    · simp [Builtin.append_, run_underlying ht, sizeOf, typeInfo, hi, Builtin.lenOf, Builtin.firstCells]
    · simp [Builtin.append_, run_underlying ht, sizeOf, typeInfo, hi, Builtin.lenOf, Builtin.firstCells, hnc, storeCells]
theorem wp_append_slc {o : Oper} {a : Act} {K : Act → World → Prop} {Q : Exit → Act → World → Prop} (s x : Operand) (t : TypeId) (ho : o.op = .call { callee := .builtin .append, args := #[s, x], argTypes := #[t, t] })
    (base : Nat) (e : TypeId) (z : Value) (size bytes : Nat) (ht : P.underlying t = some (.slice e)) (hinfo : (P.info? e).map (fun i => (i.zero, i.size, i.bytes)) = some (some z, size, bytes)) (hzs : z.cells.size = size) (hsz : 0 < size)
    (v : Value) (n : Nat) (xs : List Value) (hs : a.eval s = v) (hown : w.ownsRow base e size v n xs) (xv : Value) (m : Nat) (news : List Value) (hxv : a.eval x = xv) (hx : SlC w xv m news) (hl : news.length = m * size) (h1 : ∀ u ∈ news, u.oneCell' = true)
    (h63 : n + m ≤ maxLen) (hbytes : (n + m) * bytes ≤ 140737488355328) (hbase : base ≤ w.heap.size)
    (h : ∀ v' w', w'.ownsRow base e size v' (n + m) (xs ++ news) → w.grownBy w' v.ownBlock → (v'.ownBlock = v.ownBlock ∨ v'.ownBlock = some w.heap.size) → K (a.put o.dst v') w') : o.wp P a w K Q := by
  obtain ⟨v', w', hrun, h2, h3, h4⟩ := run_append_slc (P := P) w base t o.type e z size bytes ht hinfo hzs hsz v n xs hown xv m news hx hl h1 h63 hbytes hbase
  unfold Oper.wp execOp
  simp only [ho, resolve, invoke, builtin, Sem.run_bind, Sem.run_pure, Result.andThen_ok, List.map_toArray, List.map_cons, List.map_nil, hs, hxv, hrun]
  exact h v' w' h2 h3 h4
/-- In a plain region. -/
theorem wpList_append_slc {ops : Array Oper} {rest : List Oper} {o : Oper} {a : Act} {Q : Exit → Act → World → Prop} (hgd : o.guard = none) (s x : Operand) (t : TypeId) (ho : o.op = .call { callee := .builtin .append, args := #[s, x], argTypes := #[t, t] })
    (base : Nat) (e : TypeId) (z : Value) (size bytes : Nat) (ht : P.underlying t = some (.slice e)) (hinfo : (P.info? e).map (fun i => (i.zero, i.size, i.bytes)) = some (some z, size, bytes)) (hzs : z.cells.size = size) (hsz : 0 < size)
    (v : Value) (n : Nat) (xs : List Value) (hs : a.eval s = v) (hown : w.ownsRow base e size v n xs) (xv : Value) (m : Nat) (news : List Value) (hxv : a.eval x = xv) (hx : SlC w xv m news) (hl : news.length = m * size) (h1 : ∀ u ∈ news, u.oneCell' = true)
    (h63 : n + m ≤ maxLen) (hbytes : (n + m) * bytes ≤ 140737488355328) (hbase : base ≤ w.heap.size)
    (h : ∀ v' w', w'.ownsRow base e size v' (n + m) (xs ++ news) → w.grownBy w' v.ownBlock → (v'.ownBlock = v.ownBlock ∨ v'.ownBlock = some w.heap.size) → wpList P ops Q rest (a.put o.dst v') w') : wpList P ops Q (o :: rest) a w :=
  wpList_plain hgd fun _ hK => wp_append_slc w s x t ho base e z size bytes ht hinfo hzs hsz v n xs hs hown xv m news hxv hx hl h1 h63 hbytes hbase fun v' w' h2 h3 h4 => hK _ _ (h v' w' h2 h3 h4)
/-- In a region that draws its order. -/
theorem step_append_slc {ops : Array Oper} {o : Oper} {a : Act} {K : Act → World → Prop} {Q : Exit → Act → World → Prop} {E : Prop} (hgd : o.guard = none) (s x : Operand) (t : TypeId) (ho : o.op = .call { callee := .builtin .append, args := #[s, x], argTypes := #[t, t] })
    (base : Nat) (e : TypeId) (z : Value) (size bytes : Nat) (ht : P.underlying t = some (.slice e)) (hinfo : (P.info? e).map (fun i => (i.zero, i.size, i.bytes)) = some (some z, size, bytes)) (hzs : z.cells.size = size) (hsz : 0 < size)
    (v : Value) (n : Nat) (xs : List Value) (hs : a.eval s = v) (hown : w.ownsRow base e size v n xs) (xv : Value) (m : Nat) (news : List Value) (hxv : a.eval x = xv) (hx : SlC w xv m news) (hl : news.length = m * size) (h1 : ∀ u ∈ news, u.oneCell' = true)
    (h63 : n + m ≤ maxLen) (hbytes : (n + m) * bytes ≤ 140737488355328) (hbase : base ≤ w.heap.size)
    (h : ∀ v' w', w'.ownsRow base e size v' (n + m) (xs ++ news) → w.grownBy w' v.ownBlock → (v'.ownBlock = v.ownBlock ∨ v'.ownBlock = some w.heap.size) → K (a.put o.dst v') w') :
    if Region.wanted o (yielded ops a.tmps) = true then Oper.wp P o a w K Q else E := by
  have hw : Region.wanted o (yielded ops a.tmps) = true := by simp [Region.wanted, hgd]
  rw [if_pos hw]
  exact wp_append_slc w s x t ho base e z size bytes ht hinfo hzs hsz v n xs hs hown xv m news hxv hx hl h1 h63 hbytes hbase h
end
end Go.Proofs.Ytmommjagndadjaa
namespace Go.Proofs.Ytmommjagndadjaa
open Go.RowKit
set_option linter.unusedSimpArgs false
set_option linter.unusedVariables false
set_option maxRecDepth 100000

/-- 'append(s, x...)' onto a full slice, x any slice that holds something: its cells move to a block of their own. -/
theorem wpList_grow_slc {P : Program} {ops : Array Oper} {rest : List Oper} {o : Oper} {a : Act} {wr : World} {Q : Exit → Act → World → Prop} (hgd : o.guard = none) (s x : Operand) (t e : TypeId)
    (ho : o.op = .call { callee := .builtin .append, args := #[s, x], argTypes := #[t, t] }) (z : Value) (size bytes : Nat) (ht : P.underlying t = some (.slice e))
    (hinfo : (P.info? e).map (fun i => (i.zero, i.size, i.bytes)) = some (some z, size, bytes)) (hzs : z.cells.size = size) (hsz : 0 < size)
    (ao : Option Addr) (n : Nat) (olds : List Value) (hs : a.eval s = .slice ao n n) (hnone : ao = none → n = 0) (hlo : olds.length = n * size) (holds : ∀ b, ao = some b → ∀ j u, olds[j]? = some u → wr.cell? (b.add j) = some u)
    (xv : Value) (m : Nat) (news : List Value) (hxv : a.eval x = xv) (hx : SlC wr xv m news) (hl : news.length = m * size) (h1 : ∀ u ∈ news, u.oneCell' = true) (hm : 0 < m)
    (h63 : n + m ≤ maxLen) (hbytes : (n + m) * bytes ≤ 140737488355328)
    (h : ∀ v' w', w'.ownsRow wr.heap.size e size v' (n + m) (olds ++ news) → Ext wr w' → wpList P ops Q rest (a.put o.dst v') w') :
    wpList P ops Q (o :: rest) a wr := by
  obtain ⟨i0, hi, hz0, hz1, hz2⟩ := info_parts hinfo
  rcases slc_nil hx hl hsz with ⟨ad, c, rfl, hcells⟩ | ⟨c, rfl, rfl, rfl⟩
  · refine wpList_append_grows _ hgd s x t ho e i0 z size bytes ht hi hz0 hz1 hz2 hzs hsz ao n n olds hs (fun h0 => ⟨hnone h0, hnone h0⟩) hlo (fun b hb j u hu => holds b hb j u hu) ad m c news hxv hl hcells h1 (by omega) h63 hbytes ?_
    intro v' w' hown' hg
    exact h v' w' (ownsRow_base hown' (by simp)) (Below.grown (Ext.refl wr) hg (by simp) (fun k hk => by simp at hk))
  · omega
end Go.Proofs.Ytmommjagndadjaa
namespace Go.Proofs.Ytmommjagndadjaa
open Go.RowKit
set_option linter.unusedSimpArgs false
set_option linter.unusedVariables false
set_option maxRecDepth 100000

/-- All blocks but those of S stay as they are. -/
structure Kb (S : List Nat) (w w' : World) : Prop where
  os : w'.os = w.os
  tape : w'.tape = w.tape
  output : w'.output = w.output
  size : w.heap.size ≤ w'.heap.size
  block : ∀ k, k < w.heap.size → k ∉ S → w'.heap[k]? = w.heap[k]?
theorem Kb.of_ext {S : List Nat} {w w' : World} (h : Ext w w') : Kb S w w' := ⟨h.os, h.tape, h.output, h.size, fun k hk _ => Below.block h k hk⟩
theorem Kb.refl (S : List Nat) (w : World) : Kb S w w := Kb.of_ext (Ext.refl w)
theorem Kb.trans {S : List Nat} {a b c : World} (h : Kb S a b) (k : Kb S b c) : Kb S a c := ⟨k.os.trans h.os, k.tape.trans h.tape, k.output.trans h.output, Nat.le_trans h.size k.size, fun i hi h1 => (k.block i (Nat.lt_of_lt_of_le hi h.size) h1).trans (h.block i hi h1)⟩
theorem Kb.mono {S T : List Nat} {a b : World} (h : Kb S a b) (hs : ∀ k ∈ S, k ∈ T) : Kb T a b := ⟨h.os, h.tape, h.output, h.size, fun i hi h1 => h.block i hi (fun e => h1 (hs i e))⟩
/-- A new block may be written: it is none of the old ones. -/
theorem Kb.trans_new {S T : List Nat} {a b c : World} (h : Kb S a b) (k : Kb T b c) (hT : ∀ i ∈ T, i ∈ S ∨ a.heap.size ≤ i) : Kb S a c :=
  ⟨k.os.trans h.os, k.tape.trans h.tape, k.output.trans h.output, Nat.le_trans h.size k.size, fun i hi h1 => (k.block i (Nat.lt_of_lt_of_le hi h.size) (fun e => (hT i e).elim h1 (fun q => absurd hi (Nat.not_lt.2 q)))).trans (h.block i hi h1)⟩
theorem Kb.set {S : List Nat} (w : World) (b j : Nat) (hb : b ∈ S) (u : Value) : Kb S w (w.setCell ⟨b, j, none⟩ u) :=
  ⟨rfl, rfl, rfl, by simp, fun k _ h1 => Below.heap_setCell _ _ _ _ (fun (e : k = b) => h1 (by rw [e]; exact hb))⟩
theorem Kb.ext {S : List Nat} {W w w' : World} (h : Kb S w w') (hx : Ext W w) (hS : ∀ k ∈ S, W.heap.size ≤ k) : Ext W w' :=
  Below.trans hx ⟨h.os, h.tape, h.output, h.size, fun k hk => h.block k (Nat.lt_of_lt_of_le hk hx.size) (fun e => absurd hk (Nat.not_lt.2 (hS k e)))⟩
theorem Kb.below {S : List Nat} {B : Nat} {W w w' : World} (h : Kb S w w') (hx : Below B W w) (hB : B ≤ W.heap.size) (hS : ∀ k ∈ S, B ≤ k) : Below B W w' :=
  Below.trans hx ⟨h.os, h.tape, h.output, h.size, fun k hk => h.block k (Nat.lt_of_lt_of_le hk (Nat.le_trans hB hx.size)) (fun e => absurd hk (Nat.not_lt.2 (hS k e)))⟩
theorem Kb.cell {S : List Nat} {w w' : World} (h : Kb S w w') {b o : Nat} {u : Value} (hb : b ∉ S) (hc : w.cell? ⟨b, o, none⟩ = some u) : w'.cell? ⟨b, o, none⟩ = some u := by
  have hl := World.block_lt_of_cell? w _ hc
  rw [← hc]; unfold World.cell?; simp only [h.block b hl hb]
theorem Kb.frozen {S : List Nat} {w w' : World} (h : Kb S w w') {b o : Nat} (hl : b < w.heap.size) (hb : b ∉ S) : w'.frozen? ⟨b, o, none⟩ = w.frozen? ⟨b, o, none⟩ := by
  unfold World.frozen?; simp only [h.block b hl hb]
theorem Kb.row {S : List Nat} {w w' : World} (h : Kb S w w') {base : Nat} {e : TypeId} {size : Nat} {v : Value} {n : Nat} {xs : List Value} (ho : w.ownsRow base e size v n xs) (hS : ∀ g ∈ S, v.ownBlock ≠ some g) : w'.ownsRow base e size v n xs := by
  refine ⟨ho.1, ho.2.imp id ?_⟩
  rintro ⟨g, cap, cur, rfl, h1, h2, r⟩
  exact ⟨g, cap, cur, rfl, h1, by rw [h.block g (Array.getElem?_eq_some_iff.1 h2).1 (fun e => hS g e rfl)]; exact h2, r⟩
theorem Kb.heap {S : List Nat} {w w' : World} (h : Kb S w w') {X : Nat} {o : Obj} (hX : X ∉ S) (hw : w.heap[X]? = some o) : w'.heap[X]? = some o := by
  rw [h.block X (Array.getElem?_eq_some_iff.1 hw).1 hX]; exact hw
/-- What an append leaves: only its own row's block. -/
theorem Kb.grown {S : List Nat} {w w' : World} {r : Option Nat} (h : w.grownBy w' r) (hS : ∀ g, r = some g → g ∈ S) : Kb S w w' :=
  ⟨h.os, h.tape, h.output, h.size, fun k hk hs => h.block k hk (fun e => hs (hS k e.symm))⟩
end Go.Proofs.Ytmommjagndadjaa
namespace Go.Proofs.Ytmommjagndadjaa
open Go.RowKit
set_option linter.unusedSimpArgs false
set_option linter.unusedVariables false
set_option maxRecDepth 100000

theorem splice_take {α : Type} (L : List α) (off : Nat) (cs : List α) (n : Nat) (h : off + cs.length ≤ n) (hn : n ≤ L.length) : (splice L off cs).take n = splice (L.take n) off cs := by
  unfold splice
  rw [List.take_append, List.take_append, List.take_take, List.length_take, Nat.min_eq_left (by omega : off ≤ L.length), List.take_of_length_le (by omega : cs.length ≤ n - off)]
  rw [Nat.min_eq_right (by omega : off ≤ n), List.take_take, Nat.min_eq_left (by omega : off ≤ n), List.drop_take, show n - (off + cs.length) = n - off - cs.length by omega]
theorem kb_setRow (w : World) (g : Nat) (cs : Array Value) : Kb [g] w (w.setRow g cs) :=
  ⟨rfl, rfl, rfl, by simp [World.setRow], fun k hk h1 => setRow_other w g k cs (fun e => h1 (by rw [e]; simp))⟩
section
variable {P : Program} {w : World}
theorem wp_copy_row {o : Oper} {a : Act} {K : Act → World → Prop} {Q : Exit → Act → World → Prop} (d s : Operand) (dT sT : TypeId)
    (ho : o.op = .call { callee := .builtin .copy, args := #[d, s], argTypes := #[dT, sT] }) (elem : TypeId) (hu : P.underlying dT = some (.slice elem)) (hsz : (P.info? elem).map (·.size) = some 1)
    (base n : Nat) (e : TypeId) (v : Value) (xs : List Value) (hown : w.ownsRow base e 1 v n xs)
    (dp sp : Option Addr) (dLen dCap sLen sCap : Nat) (hd : a.eval d = .slice dp dLen dCap) (hs : a.eval s = .slice sp sLen sCap) (off : Nat) (cs : List Value) (hcs : cs.length = sLen) (hle : sLen ≤ dLen) (hfit : off + sLen ≤ n) (h1 : ∀ u ∈ cs, u.oneCell' = true)
    (hpos : 0 < sLen → (∃ g, v.ownBlock = some g ∧ dp = some ⟨g, off, none⟩) ∧ ∃ ad, sp = some ad ∧ ∀ j u, cs[j]? = some u → w.cell? (ad.add j) = some u)
    (h : ∀ w', w'.ownsRow base e 1 v n (splice xs off cs) → Kb v.ownBlock.toList w w' → K (a.put o.dst (goInt sLen)) w') : o.wp P a w K Q := by
  by_cases h0 : sLen = 0
  · subst h0
    obtain rfl : cs = [] := List.eq_nil_of_length_eq_zero hcs
    have hrun := run_copy_none (P := P) w dT sT o.type elem dp sp dLen dCap 0 sCap hu hsz (Nat.zero_min _)
    unfold Oper.wp
    simp [execOp, ho, resolve, invoke, builtin, hd, hs, hrun, Result.andThen]
    refine h w ?_ (Kb.refl _ _)
    unfold splice
    simpa using hown
  · obtain ⟨⟨g, hg, rfl⟩, ad, rfl, hsrc⟩ := hpos (by omega)
    obtain ⟨e1, e2⟩ := hown
    rcases e2 with ⟨rfl, _⟩ | ⟨g', cap, cur, rfl, hb, hh, hn, hc, hz, ht⟩
    · cases hg
    · simp only [Value.ownBlock, Option.some.injEq] at hg
      subst hg
      have hz' : cur.size = cap := by rw [hz, Nat.mul_one]
      have hrun := run_copy_row (P := P) w dT sT o.type elem g' off dLen dCap ad sLen sCap cur e cs hu hsz hh (by rw [hcs]; exact (Nat.min_eq_left hle).symm) hsrc (by omega) h1
      unfold Oper.wp
      simp [execOp, ho, resolve, invoke, builtin, hd, hs, hrun, Result.andThen, hcs]
      rw [Nat.mul_one] at e1 ht
      refine h _ ⟨by rw [Nat.mul_one, length_splice _ _ _ (by omega)]; exact e1, .inr ⟨g', cap, (splice cur.toList off cs).toArray, rfl, hb, ?_, hn, hc, ?_, ?_⟩⟩ (kb_setRow w g' _)
      · have := setRow_heap w g' cur (cur.toList.take off ++ (cs ++ cur.toList.drop (off + cs.length))).toArray e (0, 0) hh
        simpa [splice, hcs] using this
      · simp only [List.size_toArray]
        rw [length_splice _ _ _ (by simp; omega)]; simpa using hz
      · rw [Nat.mul_one, ← ht]
        exact splice_take _ _ _ _ (by omega) (by simp; omega)
theorem wpList_copy_row' {ops : Array Oper} {rest : List Oper} {o : Oper} {a : Act} {Q : Exit → Act → World → Prop} (hgd : o.guard = none) (d s : Operand) (dT sT : TypeId)
    (ho : o.op = .call { callee := .builtin .copy, args := #[d, s], argTypes := #[dT, sT] }) (elem : TypeId) (hu : P.underlying dT = some (.slice elem)) (hsz : (P.info? elem).map (·.size) = some 1)
    (base n : Nat) (e : TypeId) (v : Value) (xs : List Value) (hown : w.ownsRow base e 1 v n xs)
    (dp sp : Option Addr) (dLen dCap sLen sCap : Nat) (hd : a.eval d = .slice dp dLen dCap) (hs : a.eval s = .slice sp sLen sCap) (off : Nat) (cs : List Value) (hcs : cs.length = sLen) (hle : sLen ≤ dLen) (hfit : off + sLen ≤ n) (h1 : ∀ u ∈ cs, u.oneCell' = true)
    (hpos : 0 < sLen → (∃ g, v.ownBlock = some g ∧ dp = some ⟨g, off, none⟩) ∧ ∃ ad, sp = some ad ∧ ∀ j u, cs[j]? = some u → w.cell? (ad.add j) = some u)
    (h : ∀ w', w'.ownsRow base e 1 v n (splice xs off cs) → Kb v.ownBlock.toList w w' → wpList P ops Q rest (a.put o.dst (goInt sLen)) w') : wpList P ops Q (o :: rest) a w :=
  wpList_plain hgd fun _ hK => wp_copy_row d s dT sT ho elem hu hsz base n e v xs hown dp sp dLen dCap sLen sCap hd hs off cs hcs hle hfit h1 hpos fun w' h2 h3 => hK _ _ (h w' h2 h3)
/-- 's[k:]'. -/
theorem run_cut_l (T : TypeId) (ht : P.underlying T = some (.slice (P.elem T))) (hs : ∀ w, (sizeOf (P.elem T)).run P w = .ok 1 w) (b n cap k : Nat) (hk : k ≤ n) :
    ∃ p, (k < cap → p = ⟨b, k, none⟩) ∧ ∀ w, (Instr.sliceAt T (.slice (some ⟨b, 0, none⟩) n cap) (some (.int .i64 (k : Int))) none none).run P w = .ok (.slice (some p) (n - k) (cap - k)) w := by
  refine ⟨if cap = k then ⟨b, 0, none⟩ else ⟨b, k, none⟩, fun h => if_neg (by omega), fun w => ?_⟩
  rw [run_sliceAt_slice w T _ _ _ _ ht, run_slice_l w T _ n cap ht .i64 k (by omega) (by omega), hs]
  by_cases h : cap = k <;> simp [Result.andThen, sliced, h, Addr.add] <;> exact Eq.symm
/-- 's[k:m]'. -/
theorem run_cut_lh (T : TypeId) (ht : P.underlying T = some (.slice (P.elem T))) (hs : ∀ w, (sizeOf (P.elem T)).run P w = .ok 1 w) (b n cap k m : Nat) (hk : k ≤ m) (hm : m ≤ cap) :
    ∃ p, (k < cap → p = ⟨b, k, none⟩) ∧ ∀ w, (Instr.sliceAt T (.slice (some ⟨b, 0, none⟩) n cap) (some (.int .i64 (k : Int))) (some (.int .i64 (m : Int))) none).run P w = .ok (.slice (some p) (m - k) (cap - k)) w := by
  refine ⟨if cap = k then ⟨b, 0, none⟩ else ⟨b, k, none⟩, fun h => if_neg (by omega), fun w => ?_⟩
  rw [run_sliceAt_slice w T _ _ _ _ ht, run_slice_lh w T _ n cap ht .i64 .i64 k m (by omega) (by omega) (by omega), hs]
  by_cases h : cap = k <;> simp [Result.andThen, sliced, h, Addr.add] <;> exact Eq.symm
/-- 's[:0]', of nil too. -/
theorem run_cut_0 (T : TypeId) (ht : P.underlying T = some (.slice (P.elem T))) (hs : ∀ w, (sizeOf (P.elem T)).run P w = .ok 1 w) (a : Option Addr) (n cap : Nat) (w : World) :
    (Instr.sliceAt T (.slice a n cap) none (some (.int .i64 0)) none).run P w = .ok (.slice a 0 cap) w := by
  rw [run_sliceAt_slice w T _ _ _ _ ht, run_slice_h w T _ n cap ht .i64 0 (by omega) (by omega), hs]
  cases a <;> simp [Result.andThen, sliced, Addr.add]
/-- 's[:m]'. -/
theorem run_cut_h (T : TypeId) (ht : P.underlying T = some (.slice (P.elem T))) (hs : ∀ w, (sizeOf (P.elem T)).run P w = .ok 1 w) (b n cap m : Nat) (hm : m ≤ cap) (w : World) :
    (Instr.sliceAt T (.slice (some ⟨b, 0, none⟩) n cap) none (some (.int .i64 (m : Int))) none).run P w = .ok (.slice (some ⟨b, 0, none⟩) m cap) w := by
  rw [run_sliceAt_slice w T _ _ _ _ ht, run_slice_h w T _ n cap ht .i64 m (by omega) (by omega), hs]
  simp [Result.andThen, sliced, Addr.add]
end
/-- A piece of an owned row. -/
theorem own_piece {w : World} {base n : Nat} {e : TypeId} {b cap : Nat} {xs : List Value} (h : w.ownsRow base e 1 (.slice (some ⟨b, 0, none⟩) n cap) n xs) (k m : Nat) (p : Addr) (hp : k < m → p = ⟨b, k, none⟩) (hk : k ≤ m) (hm : m ≤ n) :
    ∀ j u, ((xs.drop k).take (m - k))[j]? = some u → w.cell? (p.add j) = some u := by
  intro j u hu
  rw [List.getElem?_take] at hu
  split at hu
  · rename_i hj
    rw [hp (by omega)]
    rw [List.getElem?_drop] at hu
    have := (h.cells (g := b) rfl (k + j) u hu)
    have e : ∀ x y : Nat, (⟨b, x, none⟩ : Addr).add y = ⟨b, x + y, none⟩ := fun x y => by by_cases h0 : y = 0 <;> simp [Addr.add, h0]
    rw [e, Nat.zero_add] at this
    rw [e]; exact this
  · cases hu
/-- Where a slice's cells lie, if it has any. -/
theorem slc_src {w : World} {a : Option Addr} {n cap : Nat} {cs : List Value} (h : SlC w (.slice a n cap) n cs) (hn : 0 < cs.length) : ∃ ad, a = some ad ∧ ∀ j u, cs[j]? = some u → w.cell? (ad.add j) = some u := by
  obtain ⟨a', cap', e1, h1, h2, hc⟩ := h
  simp only [Value.slice.injEq] at e1
  obtain ⟨rfl, -, rfl⟩ := e1
  obtain ⟨b, o, rfl, -⟩ := hc 0 cs[0] (List.getElem?_eq_getElem hn)
  refine ⟨⟨b, o, none⟩, rfl, fun j u hu => ?_⟩
  obtain ⟨b', o', e2, hcell⟩ := hc j u hu
  simp only [Option.some.injEq, Addr.mk.injEq] at e2
  obtain ⟨rfl, rfl, -⟩ := e2
  rw [show (⟨b, o, none⟩ : Addr).add j = ⟨b, o + j, none⟩ by by_cases h0 : j = 0 <;> simp [Addr.add, h0]]
  exact hcell
/-- An owned row, cut to nothing. -/
theorem own_cut0 {w : World} {base n tn cap : Nat} {e : TypeId} {a : Option Addr} {xs : List Value} (h : w.ownsRow base e 1 (.slice a tn cap) n xs) : w.ownsRow base e 1 (.slice a 0 cap) 0 [] := by
  refine ⟨rfl, ?_⟩
  rcases h.2 with ⟨e1, _⟩ | ⟨g, cap', cur, e1, hb, hh, hn, hc, hs, _⟩
  · simp only [Value.slice.injEq] at e1
    obtain ⟨rfl, rfl, rfl⟩ := e1
    exact .inl ⟨rfl, rfl⟩
  · simp only [Value.slice.injEq] at e1
    obtain ⟨rfl, rfl, rfl⟩ := e1
    exact .inr ⟨g, cap, cur, rfl, hb, hh, Nat.zero_le _, hc, hs, by simp⟩
/-- A row as it is made. -/
theorem own_made {w : World} {base K : Nat} {e : TypeId} (b : Nat) (z : Value) (hb : base ≤ b) (hK : K ≤ maxLen) (h : w.heap[b]? = some (.cells (madeCells #[z] K) e (0, 0))) : w.ownsRow base e 1 (.slice (some ⟨b, 0, none⟩) K K) K (List.replicate K z) :=
  ⟨by simp, .inr ⟨b, K, _, rfl, hb, h, Nat.le_refl _, hK, by rw [size_madeCells]; omega, by rw [toList_madeCells_one]; simp⟩⟩
theorem splice_map {α β : Type} (f : α → β) (L : List α) (off : Nat) (cs : List α) : splice (L.map f) off (cs.map f) = (splice L off cs).map f := by
  simp [splice, List.map_take, List.map_drop]
theorem splice_all {α : Type} (L cs : List α) (h : cs.length = L.length) : splice L 0 cs = cs := by
  simp [splice, h]
/-- A row of noughts, with one list laid at its head and another behind O more. -/
theorem splice_two {α : Type} (z : α) (K O : Nat) (X Y : List α) (h : X.length + O + Y.length ≤ K) :
    splice (splice (List.replicate K z) 0 X) (X.length + O) Y = X ++ (List.replicate O z ++ (Y ++ List.replicate (K - (X.length + O + Y.length)) z)) := by
  have e1 : splice (List.replicate K z) 0 X = X ++ List.replicate (K - X.length) z := by simp [splice]
  have e2 : List.replicate (K - X.length) z = List.replicate O z ++ (List.replicate Y.length z ++ List.replicate (K - (X.length + O + Y.length)) z) := by
    rw [List.replicate_append_replicate, List.replicate_append_replicate]
    congr 1; omega
  rw [e1, e2]
  unfold splice
  rw [← List.append_assoc X, List.take_left' (by simp), List.append_assoc X]
  rw [← List.append_assoc (X ++ _), List.drop_left' (by simp [Nat.add_assoc])]
end Go.Proofs.Ytmommjagndadjaa
namespace Go.Proofs.Ytmommjagndadjaa
open Go.RowKit
set_option linter.unusedSimpArgs false
set_option linter.unusedVariables false
set_option maxRecDepth 100000

/-- A store into an owned row of one-cell elements. -/
theorem own_set1 {w : World} {base g n cap : Nat} {e : TypeId} {xs : List Value} (h : w.ownsRow base e 1 (.slice (some ⟨g, 0, none⟩) n cap) n xs) (j : Nat) (hj : j < n) (u : Value) : (w.setCell ⟨g, j, none⟩ u).ownsRow base e 1 (.slice (some ⟨g, 0, none⟩) n cap) n (xs.set j u) := by
  obtain ⟨h1, h2⟩ := h
  refine ⟨by simpa using h1, ?_⟩
  rcases h2 with ⟨h2, _⟩ | ⟨g', cap', cur, hv, hg, hh, hn, hc, hs, ht⟩
  · cases h2
  · simp only [Value.slice.injEq, Option.some.injEq, Addr.mk.injEq] at hv
    obtain ⟨⟨rfl, -, -⟩, -, rfl⟩ := hv
    refine .inr ⟨g, cap, cur.setIfInBounds j u, rfl, hg, heap_setCell_same w g j cur e u hh, hn, hc, by simpa using hs, ?_⟩
    rw [← ht]
    simp only [Array.toList_setIfInBounds, Nat.mul_one]
    rw [List.take_set]
theorem own_cell1 {w : World} {base g n cap : Nat} {e : TypeId} {xs : List Value} (h : w.ownsRow base e 1 (.slice (some ⟨g, 0, none⟩) n cap) n xs) (j : Nat) (u : Value) (hu : xs[j]? = some u) : w.cell? ⟨g, j, none⟩ = some u ∧ w.frozen? ⟨g, j, none⟩ = false := by
  obtain ⟨h1, h2⟩ := h
  rcases h2 with ⟨h2, _⟩ | ⟨g', cap', cur, hv, hg, hh, hn, hc, hs, ht⟩
  · cases h2
  · simp only [Value.slice.injEq, Option.some.injEq, Addr.mk.injEq] at hv
    obtain ⟨⟨rfl, -, -⟩, -, rfl⟩ := hv
    refine ⟨?_, frozen_of_row _ _ j _ _ hh⟩
    rw [cell_of_row w g j cur e (0, 0) hh]
    rw [← ht, List.getElem?_take] at hu
    split at hu
    · simpa using hu
    · cases hu
/-- Bytes as a string. -/
theorem run_str {P : Program} {w : World} {v : Value} {l : List Int} (src e : TypeId) (hs : P.underlying src = some (.slice e)) (he : P.underlying e = some (.int .u8)) (h : SlC w v l.length (l.map (.int .u8))) (dst : TypeId) (hd : P.underlying dst = some .string) :
    (convert src dst v).run P w = .ok (.string (strOfNums l)) w := by
  obtain ⟨a, cap, rfl, _, _, hc⟩ := h
  cases a with
  | none =>
    have hl : l = [] := by
      cases l with
      | nil => rfl
      | cons x l => obtain ⟨b, o, e, _⟩ := hc 0 (.int .u8 x) (by simp); cases e
    subst hl
    exact run_convert_bytes_nil w src e hs he _ _ dst hd
  | some a =>
    cases l with
    | nil =>
      show (convert src dst (.slice (some a) 0 cap)).run P w = _
      rw [run_convert_bytes_string w src dst e _ 0 cap hs he hd]
      simp [Conv.bytesToString, strOfNums, loadCells]
      rfl
    | cons x l =>
      obtain ⟨b, o, e1, _⟩ := hc 0 (.int .u8 x) (by simp)
      obtain rfl := Option.some.inj e1
      refine run_convert_bytes_arg w src e hs he b o _ cap (x :: l) rfl (fun i hi => ?_) dst hd
      obtain ⟨b', o', e2, hcell⟩ := hc i (.int .u8 ((x :: l).getD i 0)) (by rw [List.getElem?_map, List.getElem?_eq_getElem hi]; simp [List.getD, List.getElem?_eq_getElem hi])
      simp only [Option.some.injEq, Addr.mk.injEq] at e2
      obtain ⟨rfl, rfl, -⟩ := e2
      exact hcell
end Go.Proofs.Ytmommjagndadjaa
namespace Go.Proofs.Ytmommjagndadjaa
open Go.RowKit
set_option linter.unusedSimpArgs false
set_option linter.unusedVariables false
set_option maxRecDepth 100000

section
variable {P : Program} {ops : Array Oper} {Q : Exit → Act → World → Prop} {md : Region.Mode} {S : World → Prop} {n : Nat} {R : Array Bool → Act → World → Prop}
/-- Whatever order is picked among the first n operations, f of them still to come; S behind each; R at their end. -/
def HeadS (P : Program) (md : Region.Mode) (ops : Array Oper) (Q : Exit → Act → World → Prop) (S : World → Prop) (n : Nat) (R : Array Bool → Act → World → Prop) : Nat → Array Bool → Act → World → Prop
  | 0, listed, a, w => R listed a w
  | f + 1, listed, a, w => HeadInv md ops n listed → Region.ready md ops listed ≠ [] ∧ ∀ i ∈ Region.ready md ops listed, i < n ∧ wpOp P ops Q i (fun a' w' => S w' ∧ HeadS P md ops Q S n R f (listed.setIfInBounds i true) a' w') a w
theorem any_of_headS {g : Nat} (hR : ∀ listed a w, R listed a w → wpAny P md ops Q g listed a w) :
    ∀ (f : Nat) (listed : Array Bool) (a : Act) (w : World), HeadInv md ops n listed → HeadS P md ops Q S n R f listed a w → wpAny P md ops Q (f + g) listed a w := by
  intro f
  induction f with
  | zero => intro listed a w _ h; rw [Nat.zero_add]; exact hR _ _ _ h
  | succ f ih =>
    intro listed a w inv h
    obtain ⟨h0, h1⟩ := h inv
    rw [show f + 1 + g = (f + g) + 1 from by omega]
    exact ⟨fun e => absurd e h0, fun i hi => wpOp_mono (fun a' w' h' => ih _ a' w' (inv.set hi (h1 i hi).1) h'.2) (h1 i hi).2⟩
theorem headS_first {i : Nat} {oi : Oper} {v : Value} (hi : ops[i]? = some oi) (hsel : ∀ (j : Nat) (o : Oper) cs b, ops[j]? = some o → o.op ≠ .select cs b)
    (hQ : ∀ c a w, Q (.panic c) (a.put oi.dst v) w → Q (.panic c) a w) (hs : Region.sinkB md ops n = true) (hc : Region.chainB md ops n = true) (hn : n < ops.size) (hin : i < n)
    (hdone : ∀ listed a w, R listed a w → ∀ j ∈ Region.ready md ops listed, n ≤ j) :
    ∀ (f : Nat) (listed : Array Bool) (a : Act) (w : World),
      (∀ j oj, ops[j]? = some oj → j ≠ i → listed.getD j true = false → (∀ e ∈ oj.after, Region.binds md e = true → e.on ≠ i) → oi.apart ops oj = true) →
      i ∈ Region.ready md ops listed → YieldsIf P ops S oi v a → S w →
      HeadS P md ops Q S n R f (listed.setIfInBounds i true) (a.put oi.dst v) w → HeadS P md ops Q S n R (f + 1) listed a w := by
  intro f
  induction f with
  | zero =>
    intro listed a w _ hr hy hS H inv
    refine ⟨fun h => (by rw [h] at hr; cases hr), fun j hj => ?_⟩
    have hun := (mem_ready.1 hr).1
    by_cases hjn : j < n
    · refine ⟨hjn, ?_⟩
      by_cases hji : j = i
      · subst hji; exact hy.wpOp hi hS ⟨hS, H⟩
      · have := hdone _ _ _ H j (ready_mono hj hji)
        omega
    · exact absurd hj (tail_waits hs hc hn inv _ i rfl hin hun j (by omega))
  | succ f ih =>
    intro listed a w hfree hr hy hS H inv
    refine ⟨fun h => (by rw [h] at hr; cases hr), fun j hj => ?_⟩
    have hun := (mem_ready.1 hr).1
    by_cases hjn : j < n
    · refine ⟨hjn, ?_⟩
      by_cases hji : j = i
      · subst hji; exact hy.wpOp hi hS ⟨hS, H⟩
      · have h1 := ((H (inv.set hr hin)).2 j (ready_mono hj hji)).2
        obtain ⟨hjun, oj, hoj, hall⟩ := mem_ready.1 hj
        have hnot : ∀ e ∈ oj.after, Region.binds md e = true → e.on ≠ i := fun e he hb heq => by
          have h3 := hall e he hb
          rw [heq, getD_both hun] at h3
          cases h3
        have h2 := wpOp_putIf hoj (hfree j oj hoj hji hjun hnot) (fun cs b => hsel i oi cs b hi) (fun cs b => hsel j oj cs b hoj) hQ hy h1
        have hfree' : ∀ k ok, ops[k]? = some ok → k ≠ i → (listed.setIfInBounds j true).getD k true = false →
            (∀ e ∈ ok.after, Region.binds md e = true → e.on ≠ i) → oi.apart ops ok = true := fun k ok hk hki hun hno => by
          refine hfree k ok hk hki ?_ hno
          by_cases hjk : j = k
          · subst hjk; exact hjun
          · rw [getD_set_ne true hjk] at hun; exact hun
        refine wpOp_mono (fun a' w' h3 => ⟨h3.2.1, ih (listed.setIfInBounds j true) a' w' hfree' (ready_mono hr (Ne.symm hji)) h3.1 h3.2.1 ?_⟩) h2
        rw [Array.setIfInBounds_comm _ _ hji]
        exact h3.2.2
    · exact absurd hj (tail_waits hs hc hn inv _ i rfl hin hun j (by omega))
end
section
variable {P : Program} {l : List Oper} {Q : Exit → Act → World → Prop} {S : World → Prop} {n : Nat}
/-- The rest stands in one order. -/
def TailR (P : Program) (l : List Oper) (Q : Exit → Act → World → Prop) (n : Nat) (listed : Array Bool) (a : Act) (w : World) : Prop := Region.seqB .any l.toArray (l.length - n) n listed = true ∧ wpList P l.toArray Q (l.drop n) a w
def Hd (P : Program) (l : List Oper) (Q : Exit → Act → World → Prop) (S : World → Prop) (n : Nat) (f : Nat) (listed : Array Bool) (a : Act) (w : World) : Prop := HeadS P .any l.toArray Q S n (TailR P l Q n) f listed a w
def tailB (l : List Oper) (n : Nat) : Bool := Region.noSelect l.toArray && decide (n < l.length) && Region.sinkB .any l.toArray n && Region.chainB .any l.toArray n
/-- The beginning. -/
theorem hd_begin {id : Nat} {a : Act} {w : World} (n : Nat) (hm : P.follows .mixedOrders = true) (hB : tailB l n = true) (hS : S w.drew) (h : S w.drew → Hd P l Q S n n (Array.replicate l.length false) a w.drew) : (Code.region id l.toArray true).wp P Q a w := by
  simp only [tailB, Bool.and_eq_true, decide_eq_true_eq] at hB
  obtain ⟨⟨⟨_, hn⟩, _⟩, _⟩ := hB
  have inv0 : HeadInv .any l.toArray n (Array.replicate l.length false) :=
    ⟨by simp, fun j oj _ hl => (by rw [getD_replicate_false] at hl; cases hl), fun t _ ht => getD_in (by simpa using ht) (getD_replicate_false _ _)⟩
  have hdl : (l.drop n).length = l.length - n := by simp
  refine wp_region_any hm ?_
  have := any_of_headS (Q := Q) (S := S) (R := TailR P l Q n) (g := l.length - n) (fun listed a' w' hR => by
    have := wpAny_of_seq (md := .any) (Q' := Q) (l.drop n) n listed a' w' (fun j => by simp [List.getElem?_drop]) (by rw [hdl]; exact hR.1) hR.2
    rwa [hdl] at this) n _ a _ inv0 (h hS)
  rw [show n + (l.length - n) = l.toArray.size from by simp; omega] at this
  simpa using this
/-- Number i is taken first: it yields v in every world that meets S. -/
theorem hd_take {i f : Nat} {oi : Oper} {v : Value} {listed : Array Bool} {a : Act} {w : World} (hi : l[i]? = some oi) (hB : tailB l n = true) (hB2 : (decide (i < n) && Region.free .any l.toArray listed i && (Region.ready .any l.toArray listed).contains i) = true)
    (hQ : ∀ c a w, Q (.panic c) (a.put oi.dst v) w → Q (.panic c) a w) (hy : YieldsIf P l.toArray S oi v a) (hS : S w) (h : Hd P l Q S n f (listed.setIfInBounds i true) (a.put oi.dst v) w) : Hd P l Q S n (f + 1) listed a w := by
  simp only [tailB, Bool.and_eq_true, decide_eq_true_eq] at hB hB2
  obtain ⟨⟨⟨hsel, hn⟩, hs⟩, hc⟩ := hB
  obtain ⟨⟨hin, hf⟩, hr⟩ := hB2
  have hi' : l.toArray[i]? = some oi := by simpa using hi
  exact headS_first hi' (Region.noSelect_spec hsel) hQ hs hc (by simpa using hn) hin (fun _ _ _ hR => seqB_ready hR.1) f listed a w (Region.free_spec hi' hf) (by simpa using hr) hy hS h
/-- Number i alone may come up. -/
theorem hd_one {i f : Nat} {o : Oper} {listed : Array Bool} {a : Act} {w : World} (hi : l[i]? = some o) (hr : Region.ready .any l.toArray listed = [i]) (hin : i < n)
    (h : ∀ K' : Act → World → Prop, Shut (∀ a w, S w → (S w → Hd P l Q S n f (listed.setIfInBounds i true) a w) → K' a w) → if Region.wanted o (yielded l.toArray a.tmps) = true then Oper.wp P o a w K' Q else K' (a.put o.dst undef) w) : Hd P l Q S n (f + 1) listed a w := by
  intro _
  rw [hr]
  refine ⟨by simp, fun j hj => ?_⟩
  obtain rfl := List.mem_singleton.1 hj
  exact ⟨hin, wpOp_step (by simpa using hi) (fun K' hK => h K' (fun a w hS hW => hK a w ⟨hS, hW hS⟩))⟩
/-- The head is over. -/
theorem hd_end {listed : Array Bool} {a : Act} {w : World} (hB : Region.seqB .any l.toArray (l.length - n) n listed = true) (h : wpList P l.toArray Q (l.drop n) a w) : Hd P l Q S n 0 listed a w := ⟨hB, h⟩
end
end Go.Proofs.Ytmommjagndadjaa
namespace Go.Proofs.Ytmommjagndadjaa
open Go.ChangeShapes Go.WideShapes Go.ChangeAt Go.RowKit
theorem post_of_ext {P : Program} {H : Type} {enc : TypeId × Value → H} {f : Func} {s : ChangeSpec} {apart fresh handsOn : Bool} {W W' : World} {args : Array Value} {v : Value} {ds gs : List (DataW H)} {before pa pv : List MemPlace}
    (hW : DataW.Whole enc P f.params.toList s.vars apart W args.toList ds gs before)
    (hres : ∀ (b : Nat) (sp : Nat → Bool) (hd : Bool), DataW.TrodAll enc P W' b sp hd f.resultTypes.toList (v.resultList f.resultTypes.size) (s.fn H (ds ++ gs)).results [])
    (hargs : ∀ sp : Nat → Bool, (∀ p ∈ before, sp p.block = true) → DataW.TrodAll enc P W' 0 sp true f.params.toList args.toList (s.fn H (ds ++ gs)).args pa)
    (hvars : ∀ sp : Nat → Bool, (∀ p ∈ before, sp p.block = true) → DataW.TrodVars enc P W' sp s.vars (s.fn H (ds ++ gs)).vars pv)
    (_hps : before = pa ++ pv) (hx : Ext W W') :
    s.post enc P f apart fresh handsOn false W args v W' := by
  have hold : ∀ p ∈ before, (fun b => decide (b < W.heap.size)) p.block = true := fun p hp => by simpa using hW.lt p hp
  refine ⟨ds, gs, before, [], pa, pv, hW, hres _ _ _, hargs _ hold, hvars _ hold, Below.frame hx _, fun h => by cases h⟩
theorem wf_I64 {a : Int} (h : (Lit.int .i64 a).wf = true) : -9223372036854775808 ≤ a ∧ a < 9223372036854775808 := by
  simp [Lit.wf, IntKind.min, IntKind.max, IntKind.signed, IntKind.bits] at h
  omega
end Go.Proofs.Ytmommjagndadjaa
namespace Go.Proofs.Ytmommjagndadjaa
open Go.RowKit Go.ChangeShapes Go.WideShapes Go.ChangeAt
set_option linter.unusedSimpArgs false
set_option linter.unusedVariables false
set_option maxRecDepth 100000

theorem trodAll_below {P : Program} {H : Type} {enc : TypeId × Value → H} {W W' : World} (hl : laidOutB P = true) (hx : Ext W W') : ∀ {ts : List TypeId} {vs : List Value} {ds : List (DataW H)} {ps : List MemPlace},
    (∀ t ∈ ts, P.readableRec t = true ∧ t < P.types.size) → (∀ p ∈ ps, p.block < W.heap.size) → DataW.TrodAll enc P W 0 (fun _ => true) true ts vs ds ps →
    DataW.TrodAll enc P W' 0 (fun b => decide (b < W.heap.size)) true ts vs ds ps
  | [], [], [], _, _, _, h => h
  | _ :: _, _ :: _, _ :: _, _, hT, hs, ⟨p, q, h1, h2, e⟩ =>
    ⟨p, q, Below.trod hl (hT _ (List.mem_cons.2 (.inl rfl))).1 (hT _ (List.mem_cons.2 (.inl rfl))).2 h1 hx (fun x hx => hs x (by rw [e]; exact List.mem_append_left _ hx)),
      trodAll_below hl hx (fun t ht => hT t (List.mem_cons.2 (.inr ht))) (fun x hx => hs x (by rw [e]; exact List.mem_append_right _ hx)) h2, e⟩

/-- A law that answers a bool and leaves what was there as it was. -/
theorem post_of_ext2 {P : Program} {H : Type} {enc : TypeId × Value → H} {f : Func} {s : ChangeSpec} {apart fresh handsOn : Bool} {W W' : World} {args : Array Value} {v : Value} {ds gs : List (DataW H)} {before : List MemPlace} (hl : laidOutB P = true)
    (hT0 : (f.params.toList.all fun t => P.readableRec t && decide (t < P.types.size)) = true) (hvs : s.vars = [])
    (hW : DataW.Whole enc P f.params.toList s.vars apart W args.toList ds gs before)
    (hargs : (s.fn H (ds ++ gs)).args = ds) (hvars : (s.fn H (ds ++ gs)).vars = [])
    (hres : ∀ (b : Nat) (sp : Nat → Bool) (hd : Bool), DataW.TrodAll enc P W' b sp hd f.resultTypes.toList (v.resultList f.resultTypes.size) (s.fn H (ds ++ gs)).results [])
    (hx : Ext W W') : s.post enc P f apart fresh handsOn false W args v W' := by
  have hT : ∀ t ∈ f.params.toList, P.readableRec t = true ∧ t < P.types.size := fun t ht => by simpa using List.all_eq_true.1 hT0 t ht
  have hlt : ∀ p ∈ before, p.block < W.heap.size := fun p hp => hW.lt p hp
  have hW' := hW
  obtain ⟨p, q, hA, hV, hpq, hfz, hnd⟩ := hW'
  rw [hvs] at hV
  obtain ⟨rfl, rfl⟩ := trodVars_none hV
  rw [List.append_nil] at hpq
  subst hpq
  refine ⟨ds, [], before, [], before, [], hW, hres _ _ _, ?_, ?_, Below.frame hx _, fun h => by cases h⟩
  · rw [hargs]; exact trodAll_below hl hx hT hlt hA
  · rw [hvs, hvars]; rfl

theorem slot_add (b o : Nat) (j : Nat) : (⟨b, o, none⟩ : Addr).add j = ⟨b, o + j, none⟩ := by
  unfold Addr.add; split
  · next h0 => have : j = 0 := by simpa using h0
               rw [this]; rfl
  · rfl
theorem slc_at {w : World} {a : Addr} {len cap : Nat} {l : List Value} (hl : len ≤ cap) (hc : cap ≤ maxLen) (h : ∀ j u, l[j]? = some u → w.cell? (a.add j) = some u) : SlC w (.slice (some a) len cap) len l := by
  refine ⟨some a, cap, rfl, hl, hc, fun j u hu => ?_⟩
  have h0 : 0 < l.length := Nat.lt_of_le_of_lt (Nat.zero_le j) (List.getElem?_eq_some_iff.1 hu).1
  have h1 := World.cell?_spot (h 0 _ (List.getElem?_eq_getElem h0))
  obtain ⟨b, o, s⟩ := a
  simp [Addr.add] at h1
  subst h1
  exact ⟨b, o, rfl, by rw [← slot_add]; exact h j u hu⟩
/-- A slice of numbers that came in. -/
theorem open_numbers {P : Program} {H : Type} {enc : TypeId × Value → H} {w : World} {base : Nat} {sp : Nat → Bool} {held : Bool} {t e : TypeId} {k : IntKind} {fuel : Nat} {v : Value} {x : DataW H × List MemPlace} (ht : P.underlying t = some (.slice e)) (he : P.underlying e = some (.int k)) (hc : P.cellsOf e = 1)
    (h : DataW.trod enc P w base sp held fuel t [v] = some x) : ∃ l : List Int, SlC w v l.length (l.map (.int k)) ∧ ∀ n ∈ l, (Lit.int k n).wf = true := by
  rcases open_ints ht he hc h with ⟨e1, rfl⟩ | ⟨a, len, cap, zs, e1, hb, hl, hcm, hlen, rfl, hcell, hwf⟩
  · simp only [List.cons.injEq, and_true] at e1
    subst e1
    exact ⟨[], ⟨none, 0, rfl, Nat.le_refl _, Nat.zero_le _, fun j u hu => by simp at hu⟩, fun n hn => by cases hn⟩
  · simp only [List.cons.injEq, and_true] at e1
    subst e1
    have hz : len ≤ zs.length := by rw [hlen]; split <;> omega
    have e2 : (zs.take len).length = len := by rw [List.length_take]; omega
    refine ⟨zs.take len, ?_, fun n hn => hwf n (List.mem_of_mem_take hn)⟩
    rw [e2]
    refine slc_at hl hcm fun j u hu => ?_
    have hj : j < len := by have := (List.getElem?_eq_some_iff.1 hu).1; rw [List.length_map, e2] at this; exact this
    rw [hcell j (by omega)]
    rw [List.getElem?_map, List.getElem?_take_of_lt hj, List.getElem?_eq_getElem (by omega)] at hu
    rw [← Option.some.inj hu]
    simp [List.getD, List.getElem?_eq_getElem (show j < zs.length by omega)]
/-- A struct whose field at offset o is one cell. -/
theorem trod_fields {P : Program} {H : Type} {enc : TypeId × Value → H} {w : World} {base : Nat} {sp : Nat → Bool} {held : Bool} {t : TypeId} {fs : Array Field} {fuel : Nat} {cs : List Value} {x : DataW H × List MemPlace} (ht : P.underlying t = some (.struct fs))
    (h : DataW.trod enc P w base sp held fuel t cs = some x) : ∃ n, cs.length = P.cellsOf t ∧ ∀ (i o : Nat) (ty : TypeId) (v : Value), (fs[i]?).map (fun f => (f.type, f.offset)) = some (ty, o) → P.cellsOf ty = 1 → cs[o]? = some v → ∃ y, DataW.trod enc P w base sp held n ty [v] = some y := by
  obtain ⟨xs, n, rfl, _, hl, hxl, hf⟩ := DataW.trod_struct ht h
  refine ⟨n, hl, fun i o ty v hfs hc hv => ?_⟩
  obtain ⟨f, hfi, e⟩ := Option.map_eq_some_iff.1 hfs
  simp only [Prod.mk.injEq] at e
  obtain ⟨rfl, rfl⟩ := e
  have := hf i f hfi
  have hi : i < xs.length := by rw [hxl]; exact (Array.getElem?_eq_some_iff.1 hfi).1
  obtain ⟨ho, hov⟩ := List.getElem?_eq_some_iff.1 hv
  rw [hc, List.drop_eq_getElem_cons ho, List.take_succ_cons, List.take_zero, hov, List.getElem?_eq_getElem hi] at this
  exact ⟨_, this⟩
theorem okWide_agg {P : Program} {w : World} {r : Reach} {b : Nat} {t : TypeId} {v : Value} {fs : Array Field} (ht : P.underlying t = some (.struct fs)) (h : Value.okWide P w r b t v) : ∃ cs, v = .agg cs := by
  unfold Value.okWide at h
  rw [ht] at h
  obtain ⟨cs, e, _⟩ := h
  exact ⟨cs, e⟩
end Go.Proofs.Ytmommjagndadjaa
namespace Go.Proofs.Ytmommjagndadjaa
open Go.RowKit
set_option linter.unusedSimpArgs false
set_option linter.unusedVariables false
set_option maxRecDepth 100000

/-- A number that 64 bits hold. -/
def I64 (n : Int) : Prop := -9223372036854775808 ≤ n ∧ n < 9223372036854775808
theorem infoInt : (Try.prog.info? 3).map (fun i => (i.zero, i.size, i.bytes)) = some (some (.int .i64 0), 1, 8) := by kernel_rfl

abbrev u8s (l : List Int) : List Value := l.map (.int .u8)
abbrev i64s (l : List Int) : List Value := l.map (.int .i64)

theorem nat64 {m cap : Nat} (h : m ≤ cap) (hc : cap ≤ maxLen) : wrap64 (m : Int) = m := by rw [← IntWalk.i64_left]; exact IntWalk.i64_in _ (by unfold maxLen at hc; omega)
theorem byte_in {x : Int} (hx : 0 ≤ x ∧ x < 256) : IntKind.i64.wrap x = x := IntWalk.i64_in _ (by omega)

theorem SlC.fresh (w : World) (arr : Array Value) (e : TypeId) (n nb : Nat) (hn : nb = w.heap.size) (hm : n ≤ maxLen) : SlC (w.alloc (.cells arr e)) (.slice (some ⟨nb, 0, none⟩) n n) n arr.toList := by
  subst hn
  refine ⟨some ⟨w.heap.size, 0, none⟩, n, rfl, Nat.le_refl _, hm, fun j u hu => ⟨w.heap.size, 0, rfl, ?_⟩⟩
  rw [Nat.zero_add, cell_of_row _ _ j arr e (0, 0) (heap_alloc_last w _)]
  simpa using hu
theorem own_fresh (w : World) (arr : Array Value) (e : TypeId) (base n nb : Nat) (hn : nb = w.heap.size) (hb : base ≤ nb) (hs : arr.size = n) (hm : n ≤ maxLen) : (w.alloc (.cells arr e)).ownsRow base e 1 (.slice (some ⟨nb, 0, none⟩) n n) n arr.toList := by
  refine ⟨by simp [hs], .inr ⟨nb, n, arr, rfl, hb, heap_alloc_at _ _ _ hn, Nat.le_refl _, hm, by simp [hs], ?_⟩⟩
  rw [List.take_of_length_le (by simp [hs])]
theorem own_slice {w : World} {base n : Nat} {e : TypeId} {u : Value} {cs : List Value} (h : w.ownsRow base e 1 u n cs) : ∃ a n c, u = .slice a n c := by
  rcases h.2 with ⟨rfl, _⟩ | ⟨g, cap', cur, rfl, hb, _⟩
  · exact ⟨_, _, _, rfl⟩
  · exact ⟨_, _, _, rfl⟩
theorem one_i64s (l : List Int) : ∀ u ∈ i64s l, u.oneCell' = true := by
  intro u hu
  obtain ⟨x, _, rfl⟩ := List.mem_map.1 hu
  rfl

theorem fresh_drew (w : World) (arr : Array Value) (e : TypeId) (n nb : Nat) (hn : nb = w.heap.size) (hm : n ≤ maxLen) : SlC (w.alloc (.cells arr e)).drew (.slice (some ⟨nb, 0, none⟩) n n) n arr.toList := (SlC.fresh w arr e n nb hn hm).ext (Ext.refl _).drew

theorem own_slice3 {w : World} {base n : Nat} {e : TypeId} {u : Value} {cs : List Value} {k : Nat} (h : w.ownsRow base e k u n cs) : ∃ a m c, u = .slice a m c := by
  rcases h.2 with ⟨rfl, _⟩ | ⟨g, cap', cur, rfl, hb, _⟩
  · exact ⟨_, _, _, rfl⟩
  · exact ⟨_, _, _, rfl⟩
theorem ext_set {w w' : World} (h : Ext w w') {X : Nat} (hX : w.heap.size ≤ X) (j : Nat) (v : Value) : Ext w (w'.setCell ⟨X, j, none⟩ v) := h.setCell hX v
/-- A block of one program, all of whose cells may be stored to. -/
structure BoxV (C : Nat) (vs : List Value) (w : World) : Prop where
  cells : ∀ j u, vs[j]? = some u → w.cell? ⟨C, j, none⟩ = some u
  fz : ∀ j, w.frozen? ⟨C, j, none⟩ = false
  lt : C < w.heap.size
theorem BoxV.ext {C : Nat} {vs : List Value} {w w' : World} (h : BoxV C vs w) (hx : Ext w w') : BoxV C vs w' :=
  ⟨fun j u hu => hx.cell (h.cells j u hu), fun j => by rw [hx.frozens C j h.lt]; exact h.fz j, Nat.lt_of_lt_of_le h.lt hx.size⟩
theorem BoxV.set {C : Nat} {vs : List Value} {w : World} (h : BoxV C vs w) (j : Nat) (u : Value) (hj : j < vs.length) : BoxV C (vs.set j u) (w.setCell ⟨C, j, none⟩ u) := by
  refine ⟨fun k x hx => ?_, fun k => by simp; exact h.fz k, by simp; exact h.lt⟩
  by_cases hk : j = k
  · subst hk
    rw [List.getElem?_set_self hj] at hx
    rw [← Option.some.inj hx]
    exact World.cell?_setCell_same _ _ _ (h.cells j _ (List.getElem?_eq_getElem hj))
  · rw [List.getElem?_set_ne hk] at hx
    rw [World.cell?_setCell_other _ _ _ _ (by intro e; simp only [Addr.mk.injEq] at e; omega)]
    exact h.cells k x hx
theorem BoxV.put {C : Nat} {vs : List Value} {w : World} (h : BoxV C vs w) (j : Nat) (u : Value) : BoxV C (vs.set j u) (w.setCell ⟨C, j, none⟩ u) := by
  by_cases hj : j < vs.length
  · exact h.set j u hj
  · rw [List.set_eq_of_length_le (by omega)]
    refine ⟨fun k x hx => ?_, fun k => by simp; exact h.fz k, by simp; exact h.lt⟩
    have hk := (List.getElem?_eq_some_iff.1 hx).1
    rw [World.cell?_setCell_other _ _ _ _ (by intro e; simp only [Addr.mk.injEq] at e; omega)]
    exact h.cells k x hx
theorem BoxV.drew {C : Nat} {vs : List Value} {w : World} (h : BoxV C vs w) : BoxV C vs w.drew := h.ext (Ext.refl w).drew
theorem BoxV.drewN {C : Nat} {vs : List Value} {w : World} (h : BoxV C vs w) (n : Nat) : BoxV C vs (w.drewN n) := h.ext ((Ext.refl w).drewN n)
theorem BoxV.cast {C : Nat} {vs vs' : List Value} {w : World} (h : BoxV C vs w) (e : vs = vs') : BoxV C vs' w := e ▸ h
theorem drew_block {w : World} {X : Nat} {o : Obj} (h : w.heap[X]? = some o) : w.drew.heap[X]? = some o := h
theorem drewN_block {w : World} {X : Nat} {o : Obj} (h : w.heap[X]? = some o) (n : Nat) : (w.drewN n).heap[X]? = some o := h
theorem ext_block {w w' : World} (h : Ext w w') {X : Nat} {o : Obj} (hX : w.heap[X]? = some o) : w'.heap[X]? = some o := by
  rw [Below.block h X (Array.getElem?_eq_some_iff.1 hX).1]; exact hX
theorem set_block {w : World} {X C : Nat} {o : Obj} (hC : X ≠ C) (j : Nat) (u : Value) (hX : w.heap[X]? = some o) : (w.setCell ⟨C, j, none⟩ u).heap[X]? = some o := by
  rw [Below.heap_setCell _ _ _ _ hC]; exact hX
theorem row_below {B M : Nat} {w w' : World} {e : TypeId} {size : Nat} {v : Value} {n : Nat} {xs : List Value} (h : w.ownsRow B e size v n xs) (hM : ∀ g, v.ownBlock = some g → g < M) (hx : Below M w w') : w'.ownsRow B e size v n xs := by
  refine ⟨h.1, h.2.imp id ?_⟩
  rintro ⟨g, cap, cur, rfl, h1, h2, r⟩
  exact ⟨g, cap, cur, rfl, h1, by rw [Below.block hx g (hM g rfl)]; exact h2, r⟩
theorem BoxV.below {C M : Nat} {vs : List Value} {w w' : World} (h : BoxV C vs w) (hx : Below M w w') (hC : C < M) : BoxV C vs w' :=
  ⟨fun j u hu => (Below.cell (p := ⟨C, j, none⟩) hx hC).trans (h.cells j u hu), fun j => (Below.frozen (p := ⟨C, j, none⟩) hx hC).trans (h.fz j), Nat.lt_of_lt_of_le h.lt hx.size⟩
theorem results_cell_tmp {P : Program} {fn : Func} {p u : Tmp} {ty : TypeId} (h : fn.results = #[.cell p ty, .tmp u]) (tmps : Array Value) (w : World) (g : Nat) (t : TypeId) (cs : Array Value) (fr : Nat × Nat) (d : TypeDesc)
    (hp : tmps.getD p undef = .pointer (some ⟨g, 0, none⟩)) (hg : w.heap[g]? = some (.cells cs t fr))
    (hu : P.underlying ty = some d) (hd : (match d with | .struct _ | .array _ _ => true | _ => false) = true) (hi : (P.info? ty).map (·.size) = some cs.size) :
    (results fn tmps).run P w = .ok (.tuple #[.agg cs, tmps.getD u undef]) w := by
  have hp' : tmps[p]?.getD undef = .pointer (some ⟨g, 0, none⟩) := by simpa using hp
  simp [results, h, hp', asAddr, run_loadVar_row w g t ty cs fr d hg hu hd hi]
theorem ret_row2 {P : Program} {fn : Func} {R : Ending → World → Prop} {a : Act} {w : World} {p u : Tmp} {ty : TypeId} (h : fn.results = #[.cell p ty, .tmp u]) (n : Nat) (t : TypeId) (cs : Array Value) (d : TypeDesc)
    (hp : a.tmps.getD p undef = .pointer (some ⟨n, 0, none⟩)) (hg : w.heap[n]? = some (.cells cs t (0, 0)))
    (hu : P.underlying ty = some d) (hd : (match d with | .struct _ | .array _ _ => true | _ => false) = true) (hi : (P.info? ty).map (·.size) = some cs.size) (hdf : a.defers = [])
    (hR : R (.returned (.tuple #[.agg cs, a.tmps.getD u undef])) w) : bodyPost P fn R .ret a w :=
  bodyPost_ret (results_cell_tmp h _ _ _ _ _ _ _ hp hg hu hd hi) hdf hR
theorem row_setRow {B X : Nat} {w : World} {e : TypeId} {size : Nat} {v : Value} {n : Nat} {xs : List Value} (h : w.ownsRow B e size v n xs) (hX : X < B) (cs : Array Value) : (w.setRow X cs).ownsRow B e size v n xs := by
  refine ⟨h.1, h.2.imp id ?_⟩
  rintro ⟨g, cap, cur, rfl, h1, h2, r⟩
  exact ⟨g, cap, cur, rfl, h1, by rw [setRow_other _ _ _ _ (show g ≠ X by omega)]; exact h2, r⟩
theorem BoxV.other {C : Nat} {vs : List Value} {w : World} (h : BoxV C vs w) {g : Nat} (hg : g ≠ C) (j : Nat) (u : Value) : BoxV C vs (w.setCell ⟨g, j, none⟩ u) := by
  refine ⟨fun k x hx => ?_, fun k => by simp; exact h.fz k, by simp; exact h.lt⟩
  rw [World.cell?_setCell_other _ _ _ _ (by intro e; simp only [Addr.mk.injEq] at e; exact hg e.1)]
  exact h.cells k x hx
theorem BoxV.of_row {g : Nat} {cs : Array Value} {e : TypeId} {w : World} (h : w.heap[g]? = some (.cells cs e (0, 0))) : BoxV g cs.toList w :=
  ⟨fun j u hu => by rw [cell_of_row _ _ j _ _ (0, 0) h]; simpa using hu, fun j => frozen_of_row _ _ j _ _ h, (Array.getElem?_eq_some_iff.1 h).1⟩
theorem BoxV.kb {C : Nat} {vs : List Value} {S : List Nat} {w w' : World} (h : BoxV C vs w) (hk : Kb S w w') (hC : C ∉ S) : BoxV C vs w' :=
  ⟨fun j u hu => hk.cell hC (h.cells j u hu), fun j => (hk.frozen h.lt hC).trans (h.fz j), Nat.lt_of_lt_of_le h.lt hk.size⟩
theorem own_shorter {w : World} {base g n cap : Nat} {e : TypeId} {xs : List Value} (h : w.ownsRow base e 1 (.slice (some ⟨g, 0, none⟩) n cap) n xs) (m : Nat) (hm : m ≤ n) : w.ownsRow base e 1 (.slice (some ⟨g, 0, none⟩) m cap) m (xs.take m) := by
  obtain ⟨h1, h2⟩ := h
  rcases h2 with ⟨h2, _⟩ | ⟨g', cap', cur, hv, hg, hh, hn, hc, hs, ht⟩
  · cases h2
  · simp only [Value.slice.injEq, Option.some.injEq, Addr.mk.injEq] at hv
    obtain ⟨⟨rfl, -, -⟩, -, rfl⟩ := hv
    refine ⟨by rw [List.length_take, h1]; omega, .inr ⟨g, cap, cur, rfl, hg, hh, by omega, hc, hs, ?_⟩⟩
    rw [← ht, List.take_take, Nat.mul_one, Nat.mul_one, Nat.min_eq_left hm]
theorem sizeInt (w : World) : (sizeOf (Try.prog.elem 36)).run Try.prog w = .ok 1 w := by kernel_rfl
theorem sizeInt1 : (Try.prog.info? 3).map (·.size) = some 1 := by kernel_rfl
/-- A row that an append made is a slice of that many. -/
theorem own_n {w : World} {B n s : Nat} {e : TypeId} {v : Value} {xs : List Value} (h : w.ownsRow B e s v n xs) : ∃ a cap, v = .slice a n cap := by
  rcases h.2 with ⟨e1, e2⟩ | ⟨g, cap, cur, e1, -⟩
  · subst e2; exact ⟨_, _, e1⟩
  · exact ⟨_, _, e1⟩
theorem SlC.lt {w : World} {v : Value} {n : Nat} {cs : List Value} (h : SlC w v n cs) (hne : cs ≠ []) : ∀ b, v.ownBlock = some b → b < w.heap.size := by
  obtain ⟨a, cap, rfl, h1, h2, hc⟩ := h
  intro b hb
  obtain ⟨x, hx⟩ : ∃ x, cs[0]? = some x := ⟨_, List.getElem?_eq_getElem (List.length_pos_iff.2 hne)⟩
  obtain ⟨b', o, rfl, hcell⟩ := hc 0 x hx
  simp [Value.ownBlock] at hb
  subst hb
  exact World.block_lt_of_cell? w _ hcell
theorem sizeInts (w : World) : (sizeOf (Try.prog.elem 42)).run Try.prog w = .ok 1 w := by kernel_rfl
theorem i64s_take {r : List Int} : (i64s (r ++ [-71])).take r.length = i64s r := by
  rw [← List.map_take, List.take_left' rfl]
theorem wrap64_id {x : Int} (h1 : -9223372036854775808 ≤ x) (h2 : x < 9223372036854775808) : wrap64 x = x := IntWalk.wrap64_in x (by omega)
theorem cellsInt : Try.prog.cellsOf 3 = 1 := by kernel_rfl
theorem cellsInts : Try.prog.cellsOf 36 = 1 := by kernel_rfl
theorem lit_I64 {a : Int} (h : (Lit.int .i64 a).wf = true) : I64 a := wf_I64 h
theorem infoInts : (Try.prog.info? 36).map (fun i => (i.zero, i.size, i.bytes)) = some (some (.slice none 0 0), 1, 24) := by kernel_rfl

theorem own_room1 {w : World} {base g n cap : Nat} {e : TypeId} {xs : List Value} (h : w.ownsRow base e 1 (.slice (some ⟨g, 0, none⟩) n cap) n xs) (j : Nat) (hj : j < n) : ∃ y, w.cell? ⟨g, j, none⟩ = some y ∧ w.frozen? ⟨g, j, none⟩ = false := by
  obtain ⟨h1, h2⟩ := h
  rcases h2 with ⟨h2, _⟩ | ⟨g', cap', cur, hv, hg, hh, hn, hc, hs, ht⟩
  · cases h2
  · simp only [Value.slice.injEq, Option.some.injEq, Addr.mk.injEq] at hv
    obtain ⟨⟨rfl, -, -⟩, -, rfl⟩ := hv
    refine ⟨cur[j]'(by omega), ?_, frozen_of_row _ _ _ _ _ hh⟩
    rw [cell_of_row w g _ cur e (0, 0) hh, Array.getElem?_eq_getElem]
theorem I64.one {x : Int} (h : I64 x) : ∀ y ∈ [x], I64 y := fun y hy => by rw [List.mem_singleton.1 hy]; exact h
theorem SlC.nil (w : World) : SlC w (.slice none 0 0) 0 [] := ⟨none, 0, rfl, Nat.le_refl _, Nat.zero_le _, fun j u hu => by simp at hu⟩
end Go.Proofs.Ytmommjagndadjaa
namespace Go.Proofs.Ytmommjagndadjaa
open Go.RowKit Go.ChangeShapes Go.WideShapes Go.ChangeAt
set_option linter.unusedSimpArgs false
set_option linter.unusedVariables false
set_option maxRecDepth 100000

/-- Rows of numbers in memory: the slice of slices v holds the slices vs, and they the numbers rs. -/
structure RowsIn (w : World) (v : Value) (vs : List Value) (rs : List (List Int)) : Prop where
  top : SlC w v rs.length vs
  len : vs.length = rs.length
  row : ∀ (j : Nat) (x : Value) (r : List Int), vs[j]? = some x → rs[j]? = some r → SlC w x r.length (i64s r)
theorem RowsIn.ext {w w' : World} {v : Value} {vs : List Value} {rs : List (List Int)} (h : RowsIn w v vs rs) (hx : Ext w w') : RowsIn w' v vs rs :=
  ⟨h.top.ext hx, h.len, fun j x r h1 h2 => (h.row j x r h1 h2).ext hx⟩
theorem RowsIn.at {w : World} {v : Value} {vs : List Value} {rs : List (List Int)} (h : RowsIn w v vs rs) {j : Nat} (hj : j < rs.length) : ∃ x r, vs[j]? = some x ∧ rs[j]? = some r ∧ SlC w x r.length (i64s r) := by
  have h1 := List.getElem?_eq_getElem (show j < vs.length by rw [h.len]; exact hj)
  have h2 := List.getElem?_eq_getElem hj
  exact ⟨_, _, h1, h2, h.row j _ _ h1 h2⟩
section
variable {H : Type} {enc : TypeId × Value → H} {W : World} {base : Nat} {sp : Nat → Bool} {held : Bool}
theorem open_rows {base0 : Nat} {r0 : Reach} {v : Value} {d : DataW H} {p : List MemPlace} (hval : Value.okWide Try.prog W r0 base0 42 v) (h : DataW.Trod enc Try.prog W base sp held 42 v d p) :
    ∃ (vs : List Value) (rs : List (List Int)), RowsIn W v vs rs ∧ ∀ r ∈ rs, ∀ n ∈ r, I64 n := by
  obtain ⟨va, vm, vc, rfl⟩ := okWide_slice Try.underlying42 hval
  obtain ⟨fuel, h⟩ := h
  rcases Deep.open_slice1 Try.underlying42 cellsInts h with ⟨e1, -⟩ | ⟨a, len, cap, m, n, V, D, Pl, e1, hb, hl, hcm, hm, -, hel⟩
  · change [Value.slice va vm vc] = _ at e1
    simp only [List.cons.injEq, and_true] at e1
    rw [e1]
    exact ⟨[], [], ⟨⟨none, 0, rfl, Nat.le_refl _, Nat.zero_le _, fun j u hu => by simp at hu⟩, rfl, fun j x r h1 => by simp at h1⟩, fun r hr => by cases hr⟩
  · change [Value.slice va vm vc] = _ at e1
    simp only [List.cons.injEq, and_true] at e1
    rw [e1]
    have hlm : len ≤ m := by rw [hm]; split <;> omega
    have each : ∀ i, i < len → ∃ r : List Int, SlC W (V i) r.length (i64s r) ∧ ∀ n ∈ r, I64 n := fun i hi => by
      obtain ⟨h1, h2⟩ := hel i (by omega)
      obtain ⟨l, hl, hw⟩ := open_numbers Try.underlying36 Try.underlying3 cellsInt h2
      exact ⟨l, hl, fun n hn => lit_I64 (hw n hn)⟩
    have hch : ∃ f : Nat → List Int, ∀ i, i < len → SlC W (V i) (f i).length (i64s (f i)) ∧ ∀ n ∈ f i, I64 n := by
      classical
      exact ⟨fun i => if hi : i < len then Classical.choose (each i hi) else [], fun i hi => by simp only [dif_pos hi]; exact Classical.choose_spec (each i hi)⟩
    obtain ⟨f, hf⟩ := hch
    refine ⟨(List.range len).map V, (List.range len).map f, ⟨?_, by simp, fun j x r h1 h2 => ?_⟩, fun r hr => ?_⟩
    · rw [show ((List.range len).map f).length = len by simp]
      refine slc_at hl hcm fun j u hu => ?_
      have hj : j < len := by have := (List.getElem?_eq_some_iff.1 hu).1; simpa using this
      rw [(hel j (by omega)).1]
      rw [List.getElem?_map, List.getElem?_range hj] at hu
      exact hu
    · have hj : j < len := by have := (List.getElem?_eq_some_iff.1 h1).1; simpa using this
      rw [List.getElem?_map, List.getElem?_range hj] at h1 h2
      simp only [Option.map_some, Option.some.injEq] at h1 h2
      subst h1
      subst h2
      exact (hf j hj).1
    · obtain ⟨i, hi, rfl⟩ := List.mem_map.1 hr
      exact (hf i (List.mem_range.1 hi)).2
end
end Go.Proofs.Ytmommjagndadjaa
namespace Go.Proofs.Ytmommjagndadjaa
open Go.RowKit Go.ChangeShapes Go.WideShapes Go.ChangeAt

theorem bytesInt : Try.prog.bytesOf 3 = 8 := by kernel_rfl
theorem weights_all {H : Type} {P : Program} {e : TypeId} : ∀ {l : List (DataW H)} {d : DataW H} {n : Nat}, d ∈ l → n ∈ d.weights P e → n ∈ DataW.weightsAll P e l
  | a :: l, d, n, hd, hn => by
    simp only [DataW.weightsAll, List.mem_append]
    rcases List.mem_cons.1 hd with h | h
    · subst h; exact .inl hn
    · exact .inr (weights_all h hn)
theorem open_numbers_d {P : Program} {H : Type} {enc : TypeId × Value → H} {w : World} {base : Nat} {sp : Nat → Bool} {held : Bool} {t e : TypeId} {k : IntKind} {fuel : Nat} {v : Value} {x : DataW H × List MemPlace} (ht : P.underlying t = some (.slice e)) (he : P.underlying e = some (.int k)) (hc : P.cellsOf e = 1)
    (h : DataW.trod enc P w base sp held fuel t [v] = some x) : ∃ l : List Int, SlC w v l.length (l.map (.int k)) ∧ (∀ n ∈ l, (Lit.int k n).wf = true) ∧ (l = [] ∨ ∃ sp, x.1 = .slice (lits k l) sp) := by
  rcases open_ints ht he hc h with ⟨e1, rfl⟩ | ⟨a, len, cap, zs, e1, hb, hl, hcm, hlen, rfl, hcell, hwf⟩
  · simp only [List.cons.injEq, and_true] at e1
    subst e1
    exact ⟨[], ⟨none, 0, rfl, Nat.le_refl _, Nat.zero_le _, fun j u hu => by simp at hu⟩, (fun n hn => by cases hn), .inl rfl⟩
  · simp only [List.cons.injEq, and_true] at e1
    subst e1
    have hz : len ≤ zs.length := by rw [hlen]; split <;> omega
    have e2 : (zs.take len).length = len := by rw [List.length_take]; omega
    refine ⟨zs.take len, ?_, fun n hn => hwf n (List.mem_of_mem_take hn), .inr ⟨_, rfl⟩⟩
    rw [e2]
    refine slc_at hl hcm fun j u hu => ?_
    have hj : j < len := by have := (List.getElem?_eq_some_iff.1 hu).1; rw [List.length_map, e2] at this; exact this
    rw [hcell j (by omega)]
    rw [List.getElem?_map, List.getElem?_take_of_lt hj, List.getElem?_eq_getElem (by omega)] at hu
    rw [← Option.some.inj hu]
    simp [List.getD, List.getElem?_eq_getElem (show j < zs.length by omega)]
section
variable {H : Type} {enc : TypeId × Value → H} {W : World} {base : Nat} {sp : Nat → Bool} {held : Bool}
theorem open_rows_d {fuel : Nat} {v : Value} {x : DataW H × List MemPlace} (h : DataW.trod enc Try.prog W base sp held fuel 42 [v] = some x) (hz : ∀ n ∈ x.1.weights Try.prog 42, n ≤ reachBytes) :
    ∃ (vs : List Value) (rs : List (List Int)), RowsIn W v vs rs ∧ (∀ r ∈ rs, ∀ n ∈ r, I64 n) ∧ ∀ r ∈ rs, r.length ≤ 1000000000000000 := by
  obtain ⟨d, p⟩ := x
  rcases Deep.open_slice1 Try.underlying42 cellsInts h with ⟨e1, -⟩ | ⟨a, len, cap, m, n, V, D, Pl, e1, hb, hl, hcm, hm, hd, hel⟩
  · simp only [List.cons.injEq, and_true] at e1
    subst e1
    exact ⟨[], [], ⟨⟨none, 0, rfl, Nat.le_refl _, Nat.zero_le _, fun j u hu => by simp at hu⟩, rfl, fun j x r h1 => by simp at h1⟩, (fun r hr => by cases hr), (fun r hr => by cases hr)⟩
  · simp only [List.cons.injEq, and_true] at e1
    subst e1
    have hlm : len ≤ m := by rw [hm]; split <;> omega
    simp only [Prod.mk.injEq] at hd
    obtain ⟨rfl, -⟩ := hd
    have each : ∀ i, i < len → ∃ r : List Int, SlC W (V i) r.length (i64s r) ∧ (∀ n ∈ r, I64 n) ∧ r.length ≤ 1000000000000000 := fun i hi => by
      obtain ⟨h1, h2⟩ := hel i (by omega)
      obtain ⟨l, hl, hw, hD⟩ := open_numbers_d Try.underlying36 Try.underlying3 cellsInt h2
      refine ⟨l, hl, fun n hn => lit_I64 (hw n hn), ?_⟩
      rcases hD with rfl | ⟨sp, hD⟩
      · simp
      · have hmem : D i ∈ (List.range len).map D := List.mem_map.2 ⟨i, List.mem_range.2 hi, rfl⟩
        have := hz ((l.length + sp.length) * 8) (by
          simp only [DataW.weights, Try.underlying42]
          refine List.mem_cons_of_mem _ (List.mem_append_left _ (weights_all hmem ?_))
          rw [show D i = _ from hD]
          simp only [DataW.weights, Try.underlying36, bytesInt]
          exact List.mem_cons.2 (.inl (by simp [lits])))
        have e : reachBytes < 2 ^ 47 := by decide
        omega
    have hch : ∃ f : Nat → List Int, ∀ i, i < len → SlC W (V i) (f i).length (i64s (f i)) ∧ (∀ n ∈ f i, I64 n) ∧ (f i).length ≤ 1000000000000000 := by
      classical
      exact ⟨fun i => if hi : i < len then Classical.choose (each i hi) else [], fun i hi => by simp only [dif_pos hi]; exact Classical.choose_spec (each i hi)⟩
    obtain ⟨f, hf⟩ := hch
    refine ⟨(List.range len).map V, (List.range len).map f, ⟨?_, by simp, fun j x r h1 h2 => ?_⟩, fun r hr => ?_, fun r hr => ?_⟩
    · rw [show ((List.range len).map f).length = len by simp]
      refine slc_at hl hcm fun j u hu => ?_
      have hj : j < len := by have := (List.getElem?_eq_some_iff.1 hu).1; simpa using this
      rw [(hel j (by omega)).1]
      rw [List.getElem?_map, List.getElem?_range hj] at hu
      exact hu
    · have hj : j < len := by have := (List.getElem?_eq_some_iff.1 h1).1; simpa using this
      rw [List.getElem?_map, List.getElem?_range hj] at h1 h2
      simp only [Option.map_some, Option.some.injEq] at h1 h2
      subst h1
      subst h2
      exact (hf j hj).1
    · obtain ⟨i, hi, rfl⟩ := List.mem_map.1 hr
      exact (hf i (List.mem_range.1 hi)).2.1
    · obtain ⟨i, hi, rfl⟩ := List.mem_map.1 hr
      exact (hf i (List.mem_range.1 hi)).2.2
end
end Go.Proofs.Ytmommjagndadjaa
namespace Go.Proofs.Ytmommjagndadjaa
open Go.RowKit Go.Maps Go.WideMaps
set_option linter.unusedSimpArgs false
set_option linter.unusedVariables false
set_option maxRecDepth 100000

/-- An element as it is. -/
def heldR (v : Value) : Option (DataW Value × List MemPlace) := some (.held v, [])
def nK (n : ByteArray) : Lit := .string n.data.toList
theorem nK_inj {a b : ByteArray} (h : nK a = nK b) : a = b := by
  unfold nK at h
  cases a with
  | mk x => cases b with
    | mk y =>
      simp only [Lit.string.injEq] at h
      rw [Array.toList_inj.1 h]
theorem nK_key (n : ByteArray) : WideAt.IsKeyLit (nK n) := by
  unfold nK
  first | exact trivial | (simp [WideAt.IsKeyLit]) | (constructor)
/-- What a list of pairs has at a name; what was put last stands first. -/
def findS (L : List (ByteArray × Value)) (n : ByteArray) : Option Value := (L.find? fun e => decide (e.1 = n)).map (·.2)
theorem findS_same (n : ByteArray) (v : Value) (L : List (ByteArray × Value)) : findS ((n, v) :: L) n = some v := by simp [findS]
theorem findS_other {n m : ByteArray} (h : m ≠ n) (v : Value) (L : List (ByteArray × Value)) : findS ((m, v) :: L) n = findS L n := by
  unfold findS
  rw [List.find?_cons_of_neg (by simpa using h)]
def MapIs (D : DataW Value) (L : List (ByteArray × Value)) : Prop :=
  IsMap D ∧ ∀ n, n.size ≤ maxLen → Maps.has D (nK n) = (findS L n).isSome ∧ ∀ z, D.atKey (nK n) z = ((findS L n).map DataW.held).getD z
theorem MapIs.nil : MapIs (.map []) [] := ⟨isMap_empty, fun n _ => ⟨rfl, fun z => rfl⟩⟩
theorem MapIs.put {D : DataW Value} {L : List (ByteArray × Value)} (h : MapIs D L) (m : ByteArray) (v : Value) : MapIs (D.put (nK m) (.held v)) ((m, v) :: L) := by
  refine ⟨h.1.put _ _, fun n hn => ?_⟩
  by_cases e : m = n
  · subst e
    rw [findS_same]
    exact ⟨has_put_same h.1 (nK_key m) _, fun z => atKey_put_same h.1 (nK_key m) _ _⟩
  · have hne : nK n ≠ nK m := fun e2 => e (nK_inj e2).symm
    rw [has_put_other hne, findS_other e]
    exact ⟨(h.2 n hn).1, fun z => by rw [atKey_put_other hne]; exact (h.2 n hn).2 z⟩
/-- A block that is a map that reads as a list. -/
structure SM (P : Program) (k : TypeId) (b : Nat) (L : List (ByteArray × Value)) (w : World) : Prop where
  is : ∃ D c, c ≤ L.length ∧ w.ownsMap P k heldR b c D ∧ MapIs D L
section
variable {P : Program} {k e t : TypeId} {b : Nat} {L : List (ByteArray × Value)} {w w' : World}
theorem SM.lt (h : SM P k b L w) : b < w.heap.size := by
  obtain ⟨D, c, h1, h2, h3⟩ := h.is
  exact h2.lt
theorem ownsMap_same {R : Value → Option (DataW Value × List MemPlace)} {D : DataW Value} {c : Nat} (h : w.ownsMap P k R b c D) (hx : w'.heap[b]? = w.heap[b]?) : w'.ownsMap P k R b c D := by
  obtain ⟨es, clock, h1, h2, h3, h4⟩ := h
  exact ⟨es, clock, by rw [hx]; exact h1, h2, h3, h4⟩
theorem SM.at (h : SM P k b L w) (hb : w'.heap[b]? = w.heap[b]?) : SM P k b L w' := by
  obtain ⟨D, c, h1, h2, h3⟩ := h.is
  exact ⟨D, c, h1, ownsMap_same h2 hb, h3⟩
theorem SM.ext (h : SM P k b L w) (hx : Ext w w') : SM P k b L w' := h.at (Below.block hx b h.lt)
theorem SM.kb {S : List Nat} (h : SM P k b L w) (hk : Kb S w w') (hS : b ∉ S) : SM P k b L w' := h.at (hk.block b h.lt hS)
theorem SM.made (P : Program) (k : TypeId) (w : World) : SM P k w.heap.size [] (w.alloc (.map #[] 0)) :=
  ⟨_, 0, Nat.le_refl _, World.ownsMap_made w P k heldR, MapIs.nil⟩
theorem heldR_eq {v : Value} {d : DataW Value} {ps : List MemPlace} (h : heldR v = some (d, ps)) : d = .held v := by
  unfold heldR at h
  exact ((Prod.mk.inj (Option.some.inj h)).1).symm
theorem SM.look (h : SM P k b L w) (hk : P.underlying k = some .string) (ht : P.underlying t = some (.map k e)) {z : Value} (hz : (zeroValue e).run P w = .ok z w) {n : ByteArray} (hn : n.size ≤ maxLen) :
    (Instr.lookup t (.map (some b)) (.string n) false).run P w = .ok ((findS L n).getD z) w := by
  obtain ⟨D, c, h1, h2, h3⟩ := h.is
  obtain ⟨v, ps, hrun, hv⟩ := h2.lookup (string_keyed hk) ht hz (zd := .held z) (zp := []) rfl (keyOf_string_mk hk hn)
  have := heldR_eq hv
  have h4 := (h3.2 n hn).2 (.held z)
  rw [show (nK n) = Lit.string n.data.toList from rfl, this] at h4
  have : v = (findS L n).getD z := by
    cases h5 : findS L n with
    | none => rw [h5] at h4; simp at h4; exact h4
    | some u => rw [h5] at h4; simp at h4; exact h4
  rw [← this]; exact hrun
theorem SM.look_ok (h : SM P k b L w) (hk : P.underlying k = some .string) (ht : P.underlying t = some (.map k e)) {z : Value} (hz : (zeroValue e).run P w = .ok z w) {n : ByteArray} (hn : n.size ≤ maxLen) :
    (Instr.lookup t (.map (some b)) (.string n) true).run P w = .ok (.tuple #[(findS L n).getD z, .bool (findS L n).isSome]) w := by
  obtain ⟨D, c, h1, h2, h3⟩ := h.is
  obtain ⟨v, ps, hrun, hv⟩ := h2.look_ok (string_keyed hk) ht hz (zd := .held z) (zp := []) rfl (keyOf_string_mk hk hn)
  have := heldR_eq hv
  have h4 := (h3.2 n hn).2 (.held z)
  have h6 := (h3.2 n hn).1
  rw [show (nK n) = Lit.string n.data.toList from rfl, this] at h4
  rw [show (nK n) = Lit.string n.data.toList from rfl] at h6
  have : v = (findS L n).getD z := by
    cases h5 : findS L n with
    | none => rw [h5] at h4; simp at h4; exact h4
    | some u => rw [h5] at h4; simp at h4; exact h4
  rw [← this, ← h6]; exact hrun
theorem SM.put (h : SM P k b L w) (hk : P.underlying k = some .string) (ht : P.underlying t = some (.map k e)) (hl : L.length < maxLen) {n : ByteArray} (hn : n.size ≤ maxLen) (v : Value) :
    ∃ w', (Instr.mapUpdate t (.map (some b)) (.string n) v).run P w = .ok () w' ∧ SM P k b ((n, v) :: L) w' ∧ w.grownBy w' (some b) := by
  obtain ⟨D, c, h1, h2, h3⟩ := h.is
  obtain ⟨w', hrun, hm, hg⟩ := h2.update (string_keyed hk) ht (by omega) (keyOf_string_mk hk hn) (val := v) (d := .held v) (ps := []) rfl
  exact ⟨w', hrun, ⟨_, c + 1, by simp; omega, hm, h3.put n v⟩, hg⟩
theorem keyOf_string_inv {key : Value} {kl : Lit} (hk : P.underlying k = some .string) (h : keyOf P k key = some kl) : ∃ n : ByteArray, key = .string n ∧ kl = nK n ∧ n.size ≤ maxLen := by
  rw [keyOf_string hk] at h
  unfold mapKey at h
  rw [hk] at h
  cases key <;> simp at h
  exact ⟨_, rfl, h.2.symm, h.1⟩
/-- 'for .. range m' under way. -/
structure RG (P : Program) (k : TypeId) (b r : Nat) (L : List (ByteArray × Value)) (left : Lit → Bool) (cnt : Nat) (w : World) : Prop where
  is : ∃ D c, c ≤ L.length ∧ w.ranges P k heldR b r c D left cnt ∧ MapIs D L
theorem RG.kb {r : Nat} {left : Lit → Bool} {cnt : Nat} (h : RG P k b r L left cnt w) (hb : w'.heap[b]? = w.heap[b]?) (hr : w'.heap[r]? = w.heap[r]?) : RG P k b r L left cnt w' := by
  obtain ⟨D, c, h1, ⟨es, clock, since, seen, c0, h2, h3, h4, h5, h6, h7⟩, h8⟩ := h.is
  exact ⟨D, c, h1, ⟨es, clock, since, seen, c0, by rw [hb]; exact h2, h3, h4, h5, by rw [hr]; exact h6, h7⟩, h8⟩
theorem RG.lt {r : Nat} {left : Lit → Bool} {cnt : Nat} (h : RG P k b r L left cnt w) : r < w.heap.size ∧ b < w.heap.size := by
  obtain ⟨D, c, h1, h2, h3⟩ := h.is
  exact ⟨h2.lt, h2.owns.lt⟩
theorem RG.ext {r : Nat} {left : Lit → Bool} {cnt : Nat} (h : RG P k b r L left cnt w) (hx : Ext w w') : RG P k b r L left cnt w' :=
  h.kb (Below.block hx b h.lt.2) (Below.block hx r h.lt.1)
theorem RG.left_eq {r : Nat} {left : Lit → Bool} {cnt : Nat} (h : RG P k b r L left cnt w) : w.rangeLeft b r = cnt := by
  obtain ⟨D, c, h1, h2, h3⟩ := h.is
  exact h2.left_eq
variable {ops : Array Oper} {rest : List Oper} {o : Oper} {a : Act} {Q : Exit → Act → World → Prop}
theorem wpList_range_sm (w : World) (hg : o.guard = none) (m : Operand) (t : TypeId) (hop : o.op = Op.range t m) (k e : TypeId) (hk : P.underlying k = some .string) (ht : P.underlying t = some (.map k e)) (b : Nat) (L : List (ByteArray × Value))
    (hm : a.eval m = .map (some b)) (hown : SM P k b L w)
    (hK : ∀ w' left cnt, RG P k b w.heap.size L left cnt w' → (∀ n, n.size ≤ maxLen → left (nK n) = (findS L n).isSome) → Ext w w' → wpList P ops Q rest (a.put o.dst (.pointer (some ⟨w.heap.size, 0, none⟩))) w') :
    wpList P ops Q (o :: rest) a w := by
  obtain ⟨D, c, h1, h2, h3⟩ := hown.is
  refine wpList_range_own w hg m t hop k e (string_keyed hk) ht heldR b c D hm h2 fun w' hr hg hs => ?_
  exact hK w' _ _ ⟨D, c, h1, hr, h3⟩ (fun n hn => (h3.2 n hn).1) ⟨hg.os, hg.tape, hg.output, hg.size, fun j hj => hg.block j hj (by simp)⟩
theorem wpList_next_sm (w : World) (hg : o.guard = none) (it : Operand) (hop : o.op = Op.next it false) (k : TypeId) (hk : P.underlying k = some .string) (b r : Nat) (L : List (ByteArray × Value)) (left : Lit → Bool) (cnt : Nat)
    (hit : a.eval it = .pointer (some ⟨r, 0, none⟩)) (h : RG P k b r L left cnt w)
    (hDone : (∀ kl, left kl = false) → wpList P ops Q rest (a.put o.dst (.tuple #[.bool false])) w)
    (hMore : ∀ (n : ByteArray) (v : Value) (w' : World) (cnt' : Nat), n.size ≤ maxLen → left (nK n) = true → findS L n = some v → RG P k b r L (fun z => left z && !z.sameKey (nK n)) cnt' w' → cnt' < cnt → Kb [r] w w' →
      (Instr.entry (.pointer (some ⟨r, 0, none⟩))).run P w' = .ok (.tuple #[.string n, v]) w' → wpList P ops Q rest (a.put o.dst (.tuple #[.bool true, .string n, v])) w') :
    wpList P ops Q (o :: rest) a w := by
  obtain ⟨D, c, h1, h2, h3⟩ := h.is
  refine wpList_next_ranges w hg it hop k (string_keyed hk) heldR Value.string (fun v : Value => v) (fun key kl hkey => by obtain ⟨n, e, _⟩ := keyOf_string_inv hk hkey; exact ⟨n, e⟩) (fun v y _ => ⟨v, rfl⟩) b r c D left cnt hit h2 (fun _ hl => hDone hl) fun x v kl y w' cnt' hkey hl hv hat hr hlt hgr hs hen => ?_
  obtain ⟨n, e1, rfl, hn⟩ := keyOf_string_inv hk hkey
  cases e1
  have hy : y.1 = .held v := by
    unfold heldR at hv
    exact (congrArg Prod.fst (Option.some.inj hv)).symm
  have hf : findS L x = some v := by
    have h5 := (h3.2 x hn).2 (.nil)
    rw [hat, hy] at h5
    cases h6 : findS L x with
    | none => rw [h6] at h5; simp at h5
    | some u => rw [h6] at h5; simp at h5; rw [h5]
  exact hMore x v w' cnt' hn hl hf ⟨D, c, h1, hr, h3⟩ hlt (Kb.grown hgr (fun g hg => by simp at hg; simp [hg])) hen
end
end Go.Proofs.Ytmommjagndadjaa
namespace Go.Proofs.Ytmommjagndadjaa
open Go.RowKit Go.Maps Go.WideMaps
set_option linter.unusedSimpArgs false
set_option linter.unusedVariables false
set_option maxRecDepth 100000

def iK (n : Int) : Lit := .int .i64 n
theorem iK_inj {a b : Int} (h : iK a = iK b) : a = b := by
  unfold iK at h
  simpa using h
theorem iK_key (n : Int) : WideAt.IsKeyLit (iK n) := by
  unfold iK
  first | exact trivial | (simp [WideAt.IsKeyLit]) | (constructor)
/-- What a list of pairs has at a number; what was put last stands first. -/
def findI (L : List (Int × Value)) (n : Int) : Option Value := (L.find? fun e => decide (e.1 = n)).map (·.2)
theorem findI_same (n : Int) (v : Value) (L : List (Int × Value)) : findI ((n, v) :: L) n = some v := by simp [findI]
theorem findI_other {n m : Int} (h : m ≠ n) (v : Value) (L : List (Int × Value)) : findI ((m, v) :: L) n = findI L n := by
  unfold findI
  rw [List.find?_cons_of_neg (by simpa using h)]
def MapIsI (D : DataW Value) (L : List (Int × Value)) : Prop :=
  IsMap D ∧ ∀ n, Maps.has D (iK n) = (findI L n).isSome ∧ ∀ z, D.atKey (iK n) z = ((findI L n).map DataW.held).getD z
theorem MapIsI.nil : MapIsI (.map []) [] := ⟨isMap_empty, fun n => ⟨rfl, fun z => rfl⟩⟩
theorem MapIsI.put {D : DataW Value} {L : List (Int × Value)} (h : MapIsI D L) (m : Int) (v : Value) : MapIsI (D.put (iK m) (.held v)) ((m, v) :: L) := by
  refine ⟨h.1.put _ _, fun n => ?_⟩
  by_cases e : m = n
  · subst e
    rw [findI_same]
    exact ⟨has_put_same h.1 (iK_key m) _, fun z => atKey_put_same h.1 (iK_key m) _ _⟩
  · have hne : iK n ≠ iK m := fun e2 => e (iK_inj e2).symm
    rw [has_put_other hne, findI_other e]
    exact ⟨(h.2 n).1, fun z => by rw [atKey_put_other hne]; exact (h.2 n).2 z⟩
/-- A block that is a map that reads as a list. -/
structure IM (P : Program) (k : TypeId) (b : Nat) (L : List (Int × Value)) (w : World) : Prop where
  is : ∃ D c, c ≤ L.length ∧ w.ownsMap P k heldR b c D ∧ MapIsI D L
section
variable {P : Program} {k e t : TypeId} {b : Nat} {L : List (Int × Value)} {w w' : World}
theorem IM.lt (h : IM P k b L w) : b < w.heap.size := by
  obtain ⟨D, c, h1, h2, h3⟩ := h.is
  exact h2.lt
theorem IM.at (h : IM P k b L w) (hb : w'.heap[b]? = w.heap[b]?) : IM P k b L w' := by
  obtain ⟨D, c, h1, h2, h3⟩ := h.is
  exact ⟨D, c, h1, ownsMap_same h2 hb, h3⟩
theorem IM.ext (h : IM P k b L w) (hx : Ext w w') : IM P k b L w' := h.at (Below.block hx b h.lt)
theorem IM.kb {S : List Nat} (h : IM P k b L w) (hk : Kb S w w') (hS : b ∉ S) : IM P k b L w' := h.at (hk.block b h.lt hS)
theorem IM.made (P : Program) (k : TypeId) (w : World) : IM P k w.heap.size [] (w.alloc (.map #[] 0)) :=
  ⟨_, 0, Nat.le_refl _, World.ownsMap_made w P k heldR, MapIsI.nil⟩
theorem wfI {n : Int} (h : I64 n) : (Lit.int .i64 n).wf = true := by
  unfold I64 at h
  have e1 : IntKind.i64.min = -9223372036854775808 := by decide
  have e2 : IntKind.i64.max = 9223372036854775807 := by decide
  simp only [Lit.wf, e1, e2, Bool.and_eq_true, decide_eq_true_eq]
  omega
theorem IM.look (h : IM P k b L w) (hk : P.underlying k = some (.int .i64)) (ht : P.underlying t = some (.map k e)) {z : Value} (hz : (zeroValue e).run P w = .ok z w) {n : Int} (hn : (Lit.int .i64 n).wf = true) :
    (Instr.lookup t (.map (some b)) (.int .i64 n) false).run P w = .ok ((findI L n).getD z) w := by
  obtain ⟨D, c, h1, h2, h3⟩ := h.is
  obtain ⟨v, ps, hrun, hv⟩ := h2.lookup (int_keyed hk) ht hz (zd := .held z) (zp := []) rfl (keyOf_int_mk hk hn)
  have := heldR_eq hv
  have h4 := (h3.2 n).2 (.held z)
  rw [show (iK n) = Lit.int .i64 n from rfl, this] at h4
  have : v = (findI L n).getD z := by
    cases h5 : findI L n with
    | none => rw [h5] at h4; simp at h4; exact h4
    | some u => rw [h5] at h4; simp at h4; exact h4
  rw [← this]; exact hrun
theorem IM.put (h : IM P k b L w) (hk : P.underlying k = some (.int .i64)) (ht : P.underlying t = some (.map k e)) (hl : L.length < maxLen) {n : Int} (hn : (Lit.int .i64 n).wf = true) (v : Value) :
    ∃ w', (Instr.mapUpdate t (.map (some b)) (.int .i64 n) v).run P w = .ok () w' ∧ IM P k b ((n, v) :: L) w' ∧ w.grownBy w' (some b) := by
  obtain ⟨D, c, h1, h2, h3⟩ := h.is
  obtain ⟨w', hrun, hm, hg⟩ := h2.update (int_keyed hk) ht (by omega) (keyOf_int_mk hk hn) (val := v) (d := .held v) (ps := []) rfl
  exact ⟨w', hrun, ⟨_, c + 1, by simp; omega, hm, h3.put n v⟩, hg⟩
end
end Go.Proofs.Ytmommjagndadjaa
namespace Go.Proofs.Ytmommjagndadjaa
open Go.RowKit Go.Maps Go.WideMaps Go.WideElems Go.ChangeMaps
set_option linter.unusedSimpArgs false
set_option linter.unusedVariables false
set_option maxRecDepth 100000

theorem kb_setBlock {w : World} {b : Nat} {o o' : Obj} (hb : w.heap[b]? = some o) : Kb [b] w (setBlock w b o') :=
  ⟨rfl, rfl, rfl, by simp [setBlock], fun i hi hne => by
    have : i ≠ b := fun e => hne (by rw [e]; simp)
    unfold setBlock
    simp [Array.getElem?_setIfInBounds, Ne.symm this]⟩
theorem setBlock_at {w : World} {b : Nat} {o o' : Obj} (hb : w.heap[b]? = some o) : (setBlock w b o').heap[b]? = some o' := by
  have h := (Array.getElem?_eq_some_iff.1 hb).1
  unfold setBlock
  simp [Array.getElem?_setIfInBounds, h]
theorem SM.entry {P : Program} {k e t : TypeId} {b : Nat} {L : List (ByteArray × Value)} {w : World} (h : SM P k b L w) (hk : P.underlying k = some .string) (ht : P.underlying t = some (.map k e)) {z : Value} (hz : ∀ u : World, (zeroValue e).run P u = .ok z u) (hl : L.length < maxLen) {n : ByteArray} (hn : n.size ≤ maxLen) :
    ∃ (v0 : Value) (st : Nat) (w1 : World), (Instr.mapEntry t (.map (some b)) (.string n)).run P w = .ok (.tuple #[v0, goInt st]) w1 ∧ Kb [b] w w1 ∧
      ∀ (w2 : World) (val : Value), w2.heap[b]? = w1.heap[b]? → ∃ w3, (Instr.entryStore t (.map (some b)) (goInt st) val).run P w2 = .ok () w3 ∧ Kb [b] w2 w3 ∧ SM P k b ((n, val) :: L) w3 := by
  obtain ⟨D, c, h1, ⟨es, clock, hb, F, hs, hD⟩, h3⟩ := id h.is
  obtain ⟨v0, st, es1, clock1, hrun, -, hst⟩ := entry_then_store (string_law hk) ht hz hb F (keyOf_string_mk hk hn)
  refine ⟨v0, st, _, hrun, kb_setBlock hb, fun w2 val hw2 => ?_⟩
  rw [setBlock_at hb] at hw2
  obtain ⟨es', clock', hr2, hup⟩ := hst w2 val hw2
  refine ⟨_, hr2, kb_setBlock hw2, ?_⟩
  obtain ⟨w', hr3, hsm, hg⟩ := h.put hk ht hl hn val
  rw [hup] at hr3
  have hw' : w' = setBlock w b (.map es' clock') := by
    have := hr3
    simp only [Result.ok.injEq, true_and] at this
    exact this.symm
  rw [hw'] at hsm
  exact hsm.at (by rw [setBlock_at hw2, setBlock_at hb])
end Go.Proofs.Ytmommjagndadjaa
namespace Go.Proofs.Ytmommjagndadjaa
open Go.RowKit
set_option linter.unusedSimpArgs false
set_option linter.unusedVariables false
set_option maxRecDepth 100000

/-- Rows that are told: the blocks of Sr are none of the rows', those of St not their list's. -/
structure OutsA (W : World) (ov : Value) (vs : List Value) (os : List (List Int)) (Sr St : List Nat) (w : World) : Prop where
  ext : Ext W w
  top : w.ownsRow W.heap.size 36 1 ov vs.length vs
  len : vs.length = os.length
  row : ∀ (j : Nat) (x : Value) (r : List Int), vs[j]? = some x → os[j]? = some r → w.ownsRow W.heap.size 3 1 x r.length (i64s r) ∧ ∀ b, x.ownBlock = some b → b ∉ Sr ∧ ov.ownBlock ≠ some b
  off : ∀ b, ov.ownBlock = some b → b ∉ St
section
variable {W w w' w2 : World} {ov ov2 x : Value} {vs : List Value} {os : List (List Int)} {Sr St Sr' St' T : List Nat} {r : List Int}
theorem OutsA.rows (h : OutsA W ov vs os Sr St w) : RowsIn w ov vs os :=
  ⟨by rw [← h.len]; exact SlC.of_owns h.top, h.len, fun j x r h1 h2 => SlC.of_owns (h.row j x r h1 h2).1⟩
theorem OutsA.tick (h : OutsA W ov vs os Sr St w) (hk : Kb T w w') (hT : ∀ k ∈ T, k ∈ Sr ∧ k ∈ St ∧ W.heap.size ≤ k) (h1 : ∀ k ∈ Sr', k ∈ Sr ∨ w.heap.size ≤ k) (h2 : ∀ k ∈ St', k ∈ St ∨ w.heap.size ≤ k) : OutsA W ov vs os Sr' St' w' := by
  refine ⟨hk.ext h.ext (fun k hk1 => (hT k hk1).2.2), hk.row h.top (fun g hg e => h.off g e (hT g hg).2.1), h.len, fun j x r e1 e2 => ?_, fun b hb hs => ?_⟩
  · obtain ⟨a1, a2⟩ := h.row j x r e1 e2
    refine ⟨hk.row a1 (fun g hg e => (a2 g e).1 (hT g hg).1), fun b hb => ⟨fun hs => ?_, (a2 b hb).2⟩⟩
    rcases h1 b hs with e | e
    · exact (a2 b hb).1 e
    · have := (a1.lt b hb).2; omega
  · rcases h2 b hs with e | e
    · exact h.off b hb e
    · have := (h.top.lt b hb).2; omega
theorem OutsA.push (h : OutsA W ov vs os Sr St w) {B : Nat} (hx : w.ownsRow B 3 1 x r.length (i64s r)) (hB : W.heap.size ≤ B) (hoff : ∀ b, x.ownBlock = some b → b ∉ Sr ∧ ov.ownBlock ≠ some b) (hSr : ∀ k ∈ Sr, k < w.heap.size) (hSt : ∀ k ∈ St, k < w.heap.size) {o : Obj}
    (hg : (w.alloc o).grownBy w2 ov.ownBlock) (hown : w2.ownsRow W.heap.size 36 1 ov2 (vs.length + 1) (vs ++ [x])) (hat : ov2.ownBlock = ov.ownBlock ∨ ov2.ownBlock = some (w.alloc o).heap.size) : OutsA W ov2 (vs ++ [x]) (os ++ [r]) Sr St w2 ∧ Kb ov.ownBlock.toList w w2 := by
  have hk : Kb ov.ownBlock.toList w w2 := (Kb.of_ext ((Ext.refl w).alloc o)).trans (Kb.grown hg (fun g hg => Option.mem_toList.2 hg))
  have hnew : ∀ b, ov2.ownBlock = some b → ov.ownBlock = some b ∨ w.heap.size < b := fun b hb => by
    rcases hat with e | e
    · rw [e] at hb; exact .inl hb
    · rw [e] at hb; simp at hb; exact .inr (by omega)
  have hrow : ∀ {y : Value} {l : List Int}, w.ownsRow W.heap.size 3 1 y l.length (i64s l) → (∀ b, y.ownBlock = some b → b ∉ Sr ∧ ov.ownBlock ≠ some b) → w2.ownsRow W.heap.size 3 1 y l.length (i64s l) ∧ ∀ b, y.ownBlock = some b → b ∉ Sr ∧ ov2.ownBlock ≠ some b := fun {y l} a1 a2 => by
    refine ⟨hk.row a1 (fun g hg e => (a2 g e).2 (Option.mem_toList.1 hg)), fun b hb => ⟨(a2 b hb).1, fun e => ?_⟩⟩
    rcases hnew b e with e | e
    · exact (a2 b hb).2 e
    · have := (a1.lt b hb).2; omega
  refine ⟨⟨hk.ext h.ext (fun k hk1 => (h.top.lt k (Option.mem_toList.1 hk1)).1), by simpa using hown, by simp [h.len], fun j y l e1 e2 => ?_, fun b hb hs => ?_⟩, hk⟩
  · by_cases hj : j < vs.length
    · rw [List.getElem?_append_left hj] at e1
      rw [List.getElem?_append_left (by rw [← h.len]; exact hj)] at e2
      obtain ⟨a1, a2⟩ := h.row j y l e1 e2
      exact hrow a1 a2
    · have hjl : j = vs.length := by
        have := (List.getElem?_eq_some_iff.1 e1).1
        simp at this
        omega
      subst hjl
      rw [List.getElem?_append_right (Nat.le_refl _), Nat.sub_self] at e1
      rw [h.len, List.getElem?_append_right (Nat.le_refl _), Nat.sub_self] at e2
      simp only [List.getElem?_cons_zero, Option.some.injEq] at e1 e2
      subst e1
      subst e2
      exact hrow (ownsRow_base hx hB) hoff
  · rcases hnew b hb with e | e
    · exact h.off b e hs
    · have := hSt b hs; omega
end
def RunP (W : World) (G : Int × List (List Int)) (e : Ending) (w' : World) : Prop := ∃ (v : Value) (vs : List Value), e = .returned (.tuple #[v, .int .i64 G.1]) ∧ RowsIn w' v vs G.2 ∧ Ext W w'
theorem RowsIn.nil (w : World) : RowsIn w (.slice none 0 0) [] [] := ⟨⟨none, 0, rfl, Nat.le_refl _, Nat.zero_le _, fun j u hu => by simp at hu⟩, rfl, fun j x r h => by simp at h⟩
theorem RunP.no {W w : World} {G : Int × List (List Int)} {er : Int} (hx : Ext W w) (h : G = (er, [])) : RunP W G (.returned (.tuple #[.slice none 0 0, .int .i64 er])) w := by
  subst h; exact ⟨_, [], rfl, RowsIn.nil w, hx⟩
theorem RunP.yes {W w : World} {G : Int × List (List Int)} {os : List (List Int)} {v : Value} {vs : List Value} (h : G = (0, os)) (hr : RowsIn w v vs os) (hx : Ext W w) : RunP W G (.returned (.tuple #[v, .int .i64 0])) w := by
  subst h; exact ⟨_, vs, rfl, hr, hx⟩
end Go.Proofs.Ytmommjagndadjaa
namespace Go.Proofs.Ytmommjagndadjaa
open Go.RowKit
set_option linter.unusedSimpArgs false
set_option linter.unusedVariables false
set_option maxRecDepth 100000

set_option maxHeartbeats 2000000 in
theorem sameRows_any {v v2 : Value} {vs vs2 : List Value} {rs : List (List Int)} {w : World} (h : RowsIn w v vs rs) (h2 : RowsIn w v2 vs2 rs) :
    Calls Try.prog 21 #[v, v2] w fun e w' => e = .returned (.bool true) ∧ Ext w w' := by
  have HR := Lib.hid h
  have HR2 := Lib.hid h2
  obtain ⟨a, cap, rfl, hn1, hn2, hc⟩ := id h.top
  obtain ⟨a2, cap2, rfl, hm1, hm2, hc2⟩ := id h2.top
  have HT := Lib.hid hc
  have HT2 := Lib.hid hc2
  have hw := nat64 hn1 hn2
  have hw2 := nat64 hm1 hm2
  obtain ⟨n, hn⟩ : ∃ n, n = rs.length := ⟨_, rfl⟩
  rw [← hn] at hn1 hw hm1 hw2 ⊢
  have HN := Lib.hid hn
  have hnm : n ≤ 9223372036854775807 := Nat.le_trans hn1 hn2
  clear hn hc hc2 h h2 hn1 hn2 hm1 hm2
  go_enter Try.func21, Try.ntmps21
  go_wp2
  go_loopw [5] (fun i wr => ∃ j : Nat, j ≤ n ∧ i = .int .i64 j ∧ Ext w wr) (fun i _ => n - (intOf i).toNat)
  case atStart => exact ⟨0, Nat.zero_le _, rfl, Ext.refl _⟩
  case round =>
    obtain ⟨j, hj, rfl, hxr⟩ := hrel
    obtain ⟨t1, rfl⟩ := hxr.tok
    clear hxr
    by_cases hlt : j < n
    · obtain ⟨x, r, hx, hr, hs⟩ := HR.out.at (j := j) (by have := HN.out; omega)
      obtain ⟨x2, r2, hx2, hr2, hs2⟩ := HR2.out.at (j := j) (by have := HN.out; omega)
      obtain rfl : r2 = r := Option.some.inj (hr2.symm.trans hr)
      obtain ⟨b, o, rfl, f1⟩ := HT.out j x hx
      obtain ⟨b2, o2, rfl, f2⟩ := HT2.out j x2 hx2
      have z1 : b < w.heap.size := World.block_lt_of_cell? w _ f1
      have z2 : b2 < w.heap.size := World.block_lt_of_cell? w _ f2
      obtain ⟨xa, xcap, rfl, l1, l2, lc⟩ := hs
      obtain ⟨ya, ycap, rfl, l3, l4, lc2⟩ := hs2
      have HX := Lib.hid lc
      have HY := Lib.hid lc2
      obtain ⟨L, hL⟩ : ∃ L, L = r2.length := ⟨_, rfl⟩
      have hwl := nat64 l1 l2
      have hwl2 := nat64 l3 l4
      rw [← hL] at f1 f2 l1 l3 hwl hwl2
      have HL := Lib.hid hL
      have hLm : L ≤ 9223372036854775807 := Nat.le_trans l1 l2
      clear hx hx2 hr hr2 lc lc2 hL l1 l2 l3 l4
      go_wp2
      (refine region_drew (by kernel_rfl) (by kernel_rfl) ?_; (repeat (go_big_quiet_step (fail))); refine wpQuiet_nil ?_; rintro _ ⟨nq, rfl⟩)
      go_wp2
      go_loopw [6] (fun i wr => ∃ k : Nat, k ≤ L ∧ i = .int .i64 k ∧ Ext w wr) (fun i _ => L - (intOf i).toNat)
      case atStart => exact ⟨0, Nat.zero_le _, rfl, (by repeat first | exact Ext.refl _ | assumption | refine Ext.drew ?_ | refine Ext.drewN ?_ _ | refine Ext.extBy ?_ _ | refine Ext.alloc ?_ _ | refine Ext.setCell ?_ (by simp; try omega) _ | (refine Ext.trans ?_ (by assumption)))⟩
      case round =>
        obtain ⟨k, hk, rfl, hxr⟩ := hrel
        obtain ⟨t2, rfl⟩ := hxr.tok
        clear hxr
        by_cases hkt : k < L
        · obtain ⟨y, hy⟩ : ∃ y, r2[k]? = some y := ⟨_, List.getElem?_eq_getElem (by have := HL.out; omega)⟩
          obtain ⟨c1, o3, rfl, e1⟩ := HX.out k (.int .i64 y) (by simp [hy])
          obtain ⟨c2, o4, rfl, e2⟩ := HY.out k (.int .i64 y) (by simp [hy])
          have z3 : c1 < w.heap.size := World.block_lt_of_cell? w _ e1
          have z4 : c2 < w.heap.size := World.block_lt_of_cell? w _ e2
          clear hy
          go_wp2
          (refine region_drew (by kernel_rfl) (by kernel_rfl) ?_; (repeat (go_big_quiet_step (fail))); refine wpQuiet_nil ?_; rintro _ ⟨nq, rfl⟩)
          go_wp2
          go_roundw
          case rel => exact ⟨k + 1, by omega, by go_num, (by repeat first | exact Ext.refl _ | assumption | refine Ext.drew ?_ | refine Ext.drewN ?_ _ | refine Ext.extBy ?_ _ | refine Ext.alloc ?_ _ | refine Ext.setCell ?_ (by simp; try omega) _ | (refine Ext.trans ?_ (by assumption)))⟩
          case measure => simp [intOf]; omega
        · go_wp2
          go_roundw
          case rel => exact ⟨j + 1, by omega, by go_num, (by repeat first | exact Ext.refl _ | assumption | refine Ext.drew ?_ | refine Ext.drewN ?_ _ | refine Ext.extBy ?_ _ | refine Ext.alloc ?_ _ | refine Ext.setCell ?_ (by simp; try omega) _ | (refine Ext.trans ?_ (by assumption)))⟩
          case measure => simp [intOf]; omega
    · go_wp2
      go_ret
      exact ⟨rfl, (by repeat first | exact Ext.refl _ | assumption | refine Ext.drew ?_ | refine Ext.drewN ?_ _ | refine Ext.extBy ?_ _ | refine Ext.alloc ?_ _ | refine Ext.setCell ?_ (by simp; try omega) _ | (refine Ext.trans ?_ (by assumption)))⟩
end Go.Proofs.Ytmommjagndadjaa

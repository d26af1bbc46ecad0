/-
  Plain lemmas on the walk that all texts of this seat use: a region that draws its order whose first n operations are quiet in a class of worlds (calls that make memory among them) and whose rest stands in one forced order; the class of worlds that extend a world.
  No condition.
  The frame of a row for a call that leaves all that was there as it was and makes blocks of its own, of whatever kind.
  No condition.
  The frame of a row for a call that leaves all that was there as it was, whatever its arguments' types; slices of numbers opened.
  No condition.
  A region that draws its order and ends in one operation that waits for all others: its head walked by hand, a condition on the world kept behind each operation of the head alone.
  No condition.
  Nets of gates, their formulas and models, in plain words.
  No condition.
  More steps of the walk: an append onto a slice that is full.
  No condition.
  More steps of the walk: an append of whatever slice is read, in a plain region and in one that draws its order.
  No condition.
  More steps of the walk: an append of whatever slice is read onto a slice that is full.
  No condition.
  More steps of the walk: all blocks but a few stay as they are.
  No condition.
  More steps of the walk: a copy into an owned row; cuts of slices.
  No condition.
  More steps of the walk: a store into an owned row; bytes as a string.
  No condition.
  Plain lemmas on worlds, rows of their own, boxes and slices that the walks use.
  No condition.
  Rows of numbers that came in as an argument: how they lie in memory, none of them longer than a memory.
  No condition.
  Nets of gates, formulas, rows of bools and of numbers that came in as arguments: how they lie in memory.
  No condition.
  The walks of the formulas' small functions.
  Conditions: numbers are small.
  The walks that ask a formula: of the document; whether it is too much.
  Conditions: the formula lies in memory, and is small.
  The walks: is a formula, is a net too much; does a model make a formula of the document hold.
  Conditions: they lie in memory.
-/
import Derived.WalkKit
import Derived.WalkSpells
import Derived.WalkLawsBesides
import Derived.StillTailTactics
import Derived.Deep.QuietTactic
import Derived.BigQuiet
import Derived.Lib.Hide
import Derived.Laws.EntriesVeiled
import Derived.Deep.WholeRow
import Derived.ProofKit
import Derived.OpenShut
import Derived.Carry
import Derived.Deep.Slices
import Derived.ChangeSlices
import Derived.Deep.RegionHeld3
import Derived.ArgAppend
import Derived.Deep.AppendLies
import Derived.Laws.CopyOwn
import Derived.Laws.OwnMore
import Derived.Laws.BytesArg
import Derived.Test.YtdjnekcpeaadhaaGreatChecked
import Derived.LoopN
import Derived.LoopTactic
import Derived.Deep.Cut
import Derived.WideShapes
import Derived.Deep.MidRow
import Derived.SizedLaws
namespace Go.Proofs.YtdjnekcpeaadhaaGreat
open Go.RowKit
set_option linter.unusedSimpArgs false
set_option linter.unusedVariables false
set_option maxRecDepth 100000

section
variable {P : Program} {ops : Array Oper} {md : Region.Mode} {C : World → Prop}

/-- Whatever order is picked among the first n operations, f of them still to come. -/
def HeadQ (P : Program) (md : Region.Mode) (ops : Array Oper) (C : World → Prop) (n : Nat) (L : Array Bool → Act → Prop) : Nat → Array Bool → Act → Prop
  | 0, listed, a => L listed a
  | f + 1, listed, a => Region.ready md ops listed ≠ [] ∧ ∀ i ∈ Region.ready md ops listed, i < n ∧ qOp P ops C i (HeadQ P md ops C n L f (listed.setIfInBounds i true)) a

theorem any_of_headQ {n g : Nat} {L : Array Bool → Act → Prop} {Q' : Exit → Act → World → Prop} (hL : ∀ listed a w, C w → L listed a → wpAny P md ops Q' g listed a w) :
    ∀ (f : Nat) (listed : Array Bool) (a : Act) (w : World), C w → HeadQ P md ops C n L f listed a → wpAny P md ops Q' (f + g) listed a w := by
  intro f
  induction f with
  | zero => intro listed a w hw h; rw [Nat.zero_add]; exact hL _ _ _ hw h
  | succ f ih =>
    intro listed a w hw h
    rw [show f + 1 + g = (f + g) + 1 from by omega]
    refine ⟨fun h0 => absurd h0 h.1, fun i hi => ?_⟩
    exact wpOp_of_qOp hw (fun a' w' hw' h' => ih _ a' w' hw' h') (h.2 i hi).2

theorem headQ_first {n i : Nat} {oi : Oper} {v : Value} {L : Array Bool → Act → Prop} (hi : ops[i]? = some oi) (hsel : ∀ (j : Nat) (o : Oper) cs b, ops[j]? = some o → o.op ≠ .select cs b)
    (hs : Region.sinkB md ops n = true) (hc : Region.chainB md ops n = true) (hn : n < ops.size) (hin : i < n)
    (hdone : ∀ listed a, L listed a → ∀ j ∈ Region.ready md ops listed, n ≤ j) :
    ∀ (f : Nat) (listed : Array Bool) (a : Act), HeadInv md ops n listed →
      (∀ j oj, ops[j]? = some oj → j ≠ i → listed.getD j true = false → (∀ e ∈ oj.after, Region.binds md e = true → e.on ≠ i) → oi.apart ops oj = true) →
      i ∈ Region.ready md ops listed → YieldsIn P ops C oi v a →
      HeadQ P md ops C n L f (listed.setIfInBounds i true) (a.put oi.dst v) → HeadQ P md ops C n L (f + 1) listed a := by
  intro f
  induction f with
  | zero =>
    intro listed a inv _ hr hy H
    refine ⟨fun h => (by rw [h] at hr; cases hr), fun j hj => ?_⟩
    have hun := (mem_ready.1 hr).1
    by_cases hjn : j < n
    · refine ⟨hjn, ?_⟩
      by_cases hji : j = i
      · subst hji; exact hy.qOp hi H
      · have := hdone _ _ H j (ready_mono hj hji)
        omega
    · exact absurd hj (tail_waits hs hc hn inv _ i rfl hin hun j (by omega))
  | succ f ih =>
    intro listed a inv hfree hr hy H
    refine ⟨fun h => (by rw [h] at hr; cases hr), fun j hj => ?_⟩
    have hun := (mem_ready.1 hr).1
    by_cases hjn : j < n
    · refine ⟨hjn, ?_⟩
      by_cases hji : j = i
      · subst hji; exact hy.qOp hi H
      · obtain ⟨hjun, oj, hoj, hall⟩ := mem_ready.1 hj
        have hnot : ∀ e ∈ oj.after, Region.binds md e = true → e.on ≠ i := fun e he hb heq => by
          have h3 := hall e he hb
          rw [heq, getD_both hun] at h3
          cases h3
        have h2 := qOp_put hoj (hfree j oj hoj hji hjun hnot) (fun cs b => hsel i oi cs b hi) (fun cs b => hsel j oj cs b hoj) hy (H.2 j (ready_mono hj hji)).2
        refine qOp_mono (fun a' h3 => ih (listed.setIfInBounds j true) a' (inv.set hj hjn) (fun k ok hk hki hku hno => hfree k ok hk hki ?_ hno) (ready_mono hr (Ne.symm hji)) h3.1 ?_) h2
        · by_cases hjk : j = k
          · subst hjk; exact hjun
          · rw [getD_set_ne true hjk] at hku; exact hku
        · rw [Array.setIfInBounds_comm _ _ hji]
          exact h3.2
    · exact absurd hj (tail_waits hs hc hn inv _ i rfl hin hun j (by omega))

theorem headQ_lex {n g : Nat} {Lq : Act → Prop} (hsel : Region.noSelect ops = true) (hs : Region.sinkB md ops n = true) (hc : Region.chainB md ops n = true) (hn : n < ops.size) :
    ∀ (l : List Oper) (k : Nat) (listed : Array Bool) (a : Act), (∀ j, j < l.length → l[j]? = ops[k + j]?) → k + l.length = n → HeadInv md ops n listed →
    Region.lexHead md ops g l.length k listed = true → wpQuiet P ops C Lq l a →
    HeadQ P md ops C n (fun listed' a' => Region.seqB md ops g n listed' = true ∧ Lq a') l.length listed a := by
  intro l
  induction l with
  | nil =>
    intro k listed a _ hk _ hB h
    obtain rfl : k = n := by simpa using hk
    exact ⟨by simpa [Region.lexHead] using hB, h⟩
  | cons o l ih =>
    intro k listed a hl hk inv hB h
    have h0 : ops[k]? = some o := by simpa using (hl 0 (by simp)).symm
    simp only [List.length_cons, Region.lexHead, Bool.and_eq_true] at hB
    have hkn : k < n := by simp only [List.length_cons] at hk; omega
    have hr : k ∈ Region.ready md ops listed := by simpa using hB.1.1
    have hst : qOp P ops C k (wpQuiet P ops C Lq l) a := by unfold qOp; simp only [h0]; exact h
    obtain ⟨v, hy, hK⟩ := yieldsIn_of_qOp h0 hst
    refine headQ_first h0 (Region.noSelect_spec hsel) hs hc hn hkn (fun listed' a' hL => seqB_ready hL.1) l.length listed a inv (Region.free_spec h0 hB.1.2) hr hy (ih (k + 1) _ _ (fun j hj => ?_) (by simp only [List.length_cons] at hk; omega) (inv.set hr hkn) hB.2 hK)
    have := hl (j + 1) (by simp; omega)
    simpa [Nat.add_assoc, Nat.add_comm 1 j] using this

/-- A REGION THAT DRAWS ITS ORDER: the first n operations are quiet in the class C, the rest stands in one order behind them. -/
theorem region_class_tail {id : Nat} {Q : Exit → Act → World → Prop} {a : Act} {w : World} {l : List Oper} (C : World → Prop) (n : Nat) (hm : P.follows .mixedOrders = true) (hB : Region.lexTailB .any l.toArray n = true)
    (hC : C w.drew) (h : wpQuiet P l.toArray C (fun a' => ∀ w', C w' → wpList P l.toArray Q (l.drop n) a' w') (l.take n) a) : (Code.region id l.toArray true).wp P Q a w := by
  simp only [Region.lexTailB, Bool.and_eq_true, decide_eq_true_eq] at hB
  obtain ⟨⟨⟨⟨hsel, hn⟩, hs⟩, hc⟩, hlex⟩ := hB
  have hn' : n < l.length := by simpa using hn
  have htl : (l.take n).length = n := by simp; omega
  have hdl : (l.drop n).length = l.toArray.size - n := by simp
  have inv0 : HeadInv .any l.toArray n (Array.replicate l.toArray.size false) :=
    ⟨by simp, fun j oj _ hl => (by rw [getD_replicate_false] at hl; cases hl), fun t _ ht => getD_in (by simpa using ht) (getD_replicate_false _ _)⟩
  have H := headQ_lex (md := .any) (g := l.toArray.size - n) hsel hs hc hn (l.take n) 0 _ a (fun j hj => by
    have hj' : j < n := by rw [htl] at hj; exact hj
    simp [hj']) (by simpa using htl) inv0 (by rw [htl]; exact hlex) h
  refine wp_region_any hm ?_
  have := any_of_headQ (Q' := Q) (g := l.toArray.size - n) (fun listed a' w' hw' hL => by
    have := wpAny_of_seq (md := .any) (Q' := Q) (l.drop n) n listed a' w' (fun j => by simp [List.getElem?_drop]) (by rw [hdl]; exact hL.1) (hL.2 w' hw')
    rwa [hdl] at this) _ _ _ _ hC H
  rw [htl, show n + (l.toArray.size - n) = l.toArray.size from by omega] at this
  exact this

/-- The same where the whole region is quiet in the class. -/
theorem region_class {id : Nat} {Q : Exit → Act → World → Prop} {a : Act} {w : World} {l : List Oper} (C : World → Prop) (hm : P.follows .mixedOrders = true) (hB : Region.lexB .any l.toArray = true)
    (hC : C w.drew) (h : wpQuiet P l.toArray C (fun a' => ∀ w', C w' → Q .normal a' w') l a) : (Code.region id l.toArray true).wp P Q a w :=
  wp_region_quiet (C := C) hm hB hC (by simpa using h)

/-- One operation without a guard: one value in every world of the class. -/
theorem quiet_ex {Q : Act → Prop} {a : Act} {o : Oper} {rest : List Oper} (hg : o.guard = none) (h : ∃ v, (∀ w, C w → o.quietAt P a C w v) ∧ wpQuiet P ops C Q rest (a.put o.dst v)) : wpQuiet P ops C Q (o :: rest) a := by
  unfold wpQuiet
  rw [if_pos (by simp [Region.wanted, hg])]
  exact h

/-- One operation without a guard: v in every world of the class. -/
theorem quiet_one {Q : Act → Prop} {a : Act} {o : Oper} {rest : List Oper} (v : Value) (hg : o.guard = none) (hv : ∀ w, C w → o.quietAt P a C w v) (h : wpQuiet P ops C Q rest (a.put o.dst v)) : wpQuiet P ops C Q (o :: rest) a := by
  unfold wpQuiet
  rw [if_pos (by simp [Region.wanted, hg])]
  exact ⟨v, hv, h⟩

end

/-- A REGION WHOSE FIRST n OPERATIONS LEAVE THE WORLD AS IT IS. -/
theorem region_tail {P : Program} {id : Nat} {Q : Exit → Act → World → Prop} {a : Act} {w : World} {l : List Oper} (n : Nat) (hm : P.follows .mixedOrders = true) (hB : Region.lexTailB .any l.toArray n = true)
    (h : wpStill P l.toArray w.drew (fun a' => wpList P l.toArray Q (l.drop n) a' w.drew) (l.take n) a) : (Code.region id l.toArray true).wp P Q a w :=
  wp_region_still_tail n hm hB h

theorem region_still {P : Program} {id : Nat} {Q : Exit → Act → World → Prop} {a : Act} {w : World} {l : List Oper} (hm : P.follows .mixedOrders = true) (hB : Region.lexB .any l.toArray = true)
    (h : wpStill P l.toArray w.drew (fun a' => Q .normal a' w.drew) l a) : (Code.region id l.toArray true).wp P Q a w :=
  wp_region_still_lit hm hB h

theorem still_in {P : Program} {f : FuncId} {args : Array Value} {w : World} {v : Value} (h : Calls P f args w fun e w' => e = .returned v ∧ w = w') :
    Calls P f args w (fun e w' => e = .returned v ∧ w' = w) := h.mono fun _ _ ⟨a, b⟩ => ⟨a, b.symm⟩

theorem ret_int {k : IntKind} {a b : Int} (h : a = b) : Ending.returned (.int k a) = .returned (.int k b) := by rw [h]
theorem ret_bool {a b : Bool} (h : a = b) : Ending.returned (.bool a) = .returned (.bool b) := by rw [h]

/-- The world behind is the world ahead, with more behind its end. -/
def Ext (w w' : World) : Prop := Below w.heap.size w w'
theorem Ext.refl (w : World) : Ext w w := Below.refl _ _
theorem Ext.of_eq {w w' : World} (h : w = w') : Ext w w' := h ▸ Ext.refl w
theorem Ext.size {w w' : World} (h : Ext w w') : w.heap.size ≤ w'.heap.size := Below.size h
theorem Ext.trans {a b c : World} (h : Ext a b) (k : Ext b c) : Ext a c := Below.trans h (Below.mono k h.size)
theorem Ext.drew {a b : World} (h : Ext a b) : Ext a b.drew := Below.drew h
theorem Ext.alloc {a b : World} (h : Ext a b) (o : Obj) : Ext a (b.alloc o) := Below.alloc h h.size o
theorem Ext.setCell {a b : World} (h : Ext a b) {p : Addr} (hp : a.heap.size ≤ p.block) (u : Value) : Ext a (b.setCell p u) := Below.setCell h hp u
theorem Ext.cell {w w' : World} (h : Ext w w') {p : Addr} {v : Value} (hc : w.cell? p = some v) : w'.cell? p = some v :=
  (Below.cell h (World.block_lt_of_cell? w p hc)).trans hc
theorem Ext.cells {w w' : World} (h : Ext w w') (b o : Nat) (hb : b < w.heap.size) : w'.cell? ⟨b, o, none⟩ = w.cell? ⟨b, o, none⟩ := Below.cell (p := ⟨b, o, none⟩) h hb
theorem Ext.frozens {w w' : World} (h : Ext w w') (b o : Nat) (hb : b < w.heap.size) : w'.frozen? ⟨b, o, none⟩ = w.frozen? ⟨b, o, none⟩ := Below.frozen (p := ⟨b, o, none⟩) h hb
/-- What a caller's own walk wants of a callee's world. -/
theorem Ext.view {w w' : World} (h : Ext w w') : (∀ b o, b < w.heap.size → w'.cell? ⟨b, o, none⟩ = w.cell? ⟨b, o, none⟩) ∧ (∀ b o, b < w.heap.size → w'.frozen? ⟨b, o, none⟩ = w.frozen? ⟨b, o, none⟩) := ⟨h.cells, h.frozens⟩
theorem Ext.below {w w' : World} (h : Ext w w') {B : Nat} (hB : B ≤ w.heap.size) : Below B w w' := Below.mono h hB
/-- WORLDS THAT EXTEND A WORLD, BY A TOKEN: 'W.extBy t' is some world that extends W by t.n blocks; whatever extends W is one. -/
structure Tok where
  w : World
  n : Nat
theorem tok_nonempty (W : World) : Nonempty Tok := ⟨⟨W, 0⟩⟩
instance : Nonempty Tok := tok_nonempty default
open Classical in
noncomputable def _root_.Go.World.extBy (W : World) (t : Tok) : World :=
  if Ext W t.w ∧ t.w.heap.size = W.heap.size + t.n then t.w else { W with heap := W.heap ++ Array.replicate t.n default }
theorem ext_pad (W : World) (n : Nat) : Ext W { W with heap := W.heap ++ Array.replicate n default } := by
  refine ⟨rfl, rfl, rfl, by simp, fun k hk => ?_⟩
  show (W.heap ++ Array.replicate n default)[k]? = _
  rw [Array.getElem?_append_left hk]
theorem Ext.by (W : World) (t : Tok) : Ext W (W.extBy t) := by
  unfold World.extBy
  split
  · rename_i h; exact h.1
  · exact ext_pad W t.n
@[go_sem, simp] theorem size_extBy (W : World) (t : Tok) : (W.extBy t).heap.size = W.heap.size + t.n := by
  unfold World.extBy
  split
  · rename_i h; exact h.2
  · simp
theorem Ext.tok {W w : World} (h : Ext W w) : ∃ t, w = W.extBy t := by
  refine ⟨⟨w, w.heap.size - W.heap.size⟩, ?_⟩
  unfold World.extBy
  rw [if_pos ⟨h, by have := h.size; simp only; omega⟩]
theorem Ext.tok2 {W w : World} {t : Tok} (h : Ext (W.extBy t) w) : ∃ t', w = W.extBy t' := ((Ext.by W t).trans h).tok
@[go_sem] theorem cell?_extBy (W : World) (t : Tok) (b o : Nat) (hb : b < W.heap.size) : (W.extBy t).cell? ⟨b, o, none⟩ = W.cell? ⟨b, o, none⟩ := (Ext.by W t).cells b o hb
@[go_sem] theorem frozen?_extBy (W : World) (t : Tok) (b o : Nat) (hb : b < W.heap.size) : (W.extBy t).frozen? ⟨b, o, none⟩ = W.frozen? ⟨b, o, none⟩ := (Ext.by W t).frozens b o hb
@[go_sem] theorem lt_tok (a b : Nat) (t : Tok) (h : a < b) : a < b + t.n := Nat.lt_of_lt_of_le h (Nat.le_add_right _ _)
@[go_sem] theorem le_tok (a b : Nat) (t : Tok) (h : a ≤ b) : a ≤ b + t.n := Nat.le_trans h (Nat.le_add_right _ _)
@[go_sem] theorem ne_tok (a b : Nat) (t : Tok) (h : a < b) : (a = b + t.n) = False := eq_false (by omega)
@[go_sem] theorem ne_tok' (a b : Nat) (t : Tok) (h : a < b) : (b + t.n = a) = False := eq_false (by omega)
theorem heap_extBy (W : World) (t : Tok) (b : Nat) (hb : b < W.heap.size) : (W.extBy t).heap[b]? = W.heap[b]? := Below.block (Ext.by W t) b hb
theorem Ext.extBy {a b : World} (h : Ext a b) (t : Tok) : Ext a (b.extBy t) := h.trans (Ext.by b t)
theorem Below.extBy {B : Nat} {a b : World} (h : Below B a b) (hB : B ≤ b.heap.size) (t : Tok) : Below B a (b.extBy t) := Below.trans h ((Ext.by b t).below hB)
theorem tok_self (W : World) : ∃ t, W = W.extBy t := (Ext.refl W).tok
theorem tok_of_drew (W : World) : ∃ t, W.drew = W.extBy t := (Ext.refl W).drew.tok

/-- A region that draws its order and whose operations are quiet in the worlds that extend the world ahead of it. -/
theorem region_ext {P : Program} {id : Nat} {Q : Exit → Act → World → Prop} {a : Act} {w : World} {l : List Oper} (hm : P.follows .mixedOrders = true) (hB : Region.lexB .any l.toArray = true)
    (h : wpQuiet P l.toArray (fun w' => ∃ t, w' = w.extBy t) (fun a' => ∀ w', (∃ t, w' = w.extBy t) → Q .normal a' w') l a) : (Code.region id l.toArray true).wp P Q a w :=
  region_class _ hm hB (tok_of_drew w) h
theorem region_ext_tail {P : Program} {id : Nat} {Q : Exit → Act → World → Prop} {a : Act} {w : World} {l : List Oper} (n : Nat) (hm : P.follows .mixedOrders = true) (hB : Region.lexTailB .any l.toArray n = true)
    (h : wpQuiet P l.toArray (fun w' => ∃ t, w' = w.extBy t) (fun a' => ∀ w', (∃ t, w' = w.extBy t) → wpList P l.toArray Q (l.drop n) a' w') (l.take n) a) : (Code.region id l.toArray true).wp P Q a w :=
  region_class_tail _ n hm hB (tok_of_drew w) h
theorem region_ext2 {P : Program} {id : Nat} {Q : Exit → Act → World → Prop} {a : Act} {w : World} {t : Tok} {l : List Oper} (hm : P.follows .mixedOrders = true) (hB : Region.lexB .any l.toArray = true)
    (h : wpQuiet P l.toArray (fun w' => ∃ t, w' = w.extBy t) (fun a' => ∀ w', (∃ t, w' = w.extBy t) → Q .normal a' w') l a) : (Code.region id l.toArray true).wp P Q a (w.extBy t) :=
  region_class _ hm hB (Ext.by w t).drew.tok h
theorem region_ext_tail2 {P : Program} {id : Nat} {Q : Exit → Act → World → Prop} {a : Act} {w : World} {t : Tok} {l : List Oper} (n : Nat) (hm : P.follows .mixedOrders = true) (hB : Region.lexTailB .any l.toArray n = true)
    (h : wpQuiet P l.toArray (fun w' => ∃ t, w' = w.extBy t) (fun a' => ∀ w', (∃ t, w' = w.extBy t) → wpList P l.toArray Q (l.drop n) a' w') (l.take n) a) : (Code.region id l.toArray true).wp P Q a (w.extBy t) :=
  region_class_tail _ n hm hB (Ext.by w t).drew.tok h
theorem Ext.drewN {a b : World} (h : Ext a b) (n : Nat) : Ext a (b.drewN n) := Below.trans h ⟨rfl, rfl, rfl, Nat.le_refl _, fun _ _ => rfl⟩
/-- A region that draws its order and only reads. -/
theorem region_drew {P : Program} {id : Nat} {Q : Exit → Act → World → Prop} {a : Act} {w : World} {l : List Oper} (hm : P.follows .mixedOrders = true) (hB : Region.lexB .any l.toArray = true)
    (h : wpQuiet P l.toArray (fun w' => ∃ n, w' = w.drewN n) (fun a' => ∀ w', (∃ n, w' = w.drewN n) → Q .normal a' w') l a) : (Code.region id l.toArray true).wp P Q a w :=
  region_class _ hm hB ⟨1, rfl⟩ h
theorem region_drew_tail {P : Program} {id : Nat} {Q : Exit → Act → World → Prop} {a : Act} {w : World} {l : List Oper} (n : Nat) (hm : P.follows .mixedOrders = true) (hB : Region.lexTailB .any l.toArray n = true)
    (h : wpQuiet P l.toArray (fun w' => ∃ n, w' = w.drewN n) (fun a' => ∀ w', (∃ n, w' = w.drewN n) → wpList P l.toArray Q (l.drop n) a' w') (l.take n) a) : (Code.region id l.toArray true).wp P Q a w :=
  region_class_tail _ n hm hB ⟨1, rfl⟩ h
theorem in_drew {P : Program} {f : FuncId} {args : Array Value} {W : World} {n : Nat} {v : Value} (h : Calls P f args (W.drewN n) fun e w' => e = .returned v ∧ W.drewN n = w') :
    Calls P f args (W.drewN n) (fun e w' => e = .returned v ∧ ∃ m, w' = W.drewN m) := h.mono fun _ _ hh => ⟨hh.1, n, hh.2.symm⟩
/-- A callee's contract, met in a world of the class. -/
theorem in_same {P : Program} {f : FuncId} {args : Array Value} {W : World} {t : Tok} {v : Value} (h : Calls P f args (W.extBy t) fun e w' => e = .returned v ∧ W.extBy t = w') :
    Calls P f args (W.extBy t) (fun e w' => e = .returned v ∧ ∃ t', w' = W.extBy t') := h.mono fun _ _ hh => ⟨hh.1, t, hh.2.symm⟩
theorem in_ext {P : Program} {f : FuncId} {args : Array Value} {W : World} {t : Tok} {v : Value} (h : Calls P f args (W.extBy t) fun e w' => e = .returned v ∧ Ext (W.extBy t) w') :
    Calls P f args (W.extBy t) (fun e w' => e = .returned v ∧ ∃ t', w' = W.extBy t') := h.mono fun _ _ hh => ⟨hh.1, ((Ext.by W t).trans hh.2).tok⟩
/-- A contract that leaves the world alone, as one that extends it. -/
theorem ext_of_same {P : Program} {f : FuncId} {args : Array Value} {w : World} {v : Value} (h : Calls P f args w fun e w' => e = .returned v ∧ w = w') :
    Calls P f args w (fun e w' => e = .returned v ∧ Ext w w') := h.mono fun _ _ hh => ⟨hh.1, Ext.of_eq hh.2⟩

theorem heap_alloc_at (w : World) (o : Obj) (n : Nat) (h : n = w.heap.size) : (w.alloc o).heap[n]? = some o := by subst h; exact heap_alloc_last w o
/-- A whole row stored into the block that was made last. -/
theorem wpList_store_last {P : Program} {ops : Array Oper} {rest : List Oper} {o : Oper} {a : Act} {w : World} {Q : Exit → Act → World → Prop} (hgd : o.guard = none) (ty : TypeId) (x y : Operand) (ho : o.op = .store ty x y)
    (n : Nat) (cells old : Array Value) (t : TypeId) (hx : a.eval x = .pointer (some ⟨n, 0, none⟩)) (hy : a.eval y = .agg cells) (hn : n = w.heap.size) (hi : (P.info? ty).map (·.size) = some cells.size)
    (hold : old.size = cells.size) (h1 : cells.all (·.oneCell') = true)
    (h : wpList P ops Q rest (a.put o.dst undef) (w.alloc (.cells cells t))) : wpList P ops Q (o :: rest) a (w.alloc (.cells old t)) := by
  subst hn
  refine wpList_store_row hgd ty x y ho _ cells hx hy t old (heap_alloc_last _ _) hi hold h1 ?_
  rw [World.setRow_alloc_new]
  exact h
/-- A SLICE THAT IS READ: its value, its length, its cells. -/
def SlC (w : World) (v : Value) (n : Nat) (cs : List Value) : Prop :=
  ∃ a cap, v = .slice a n cap ∧ n ≤ cap ∧ cap ≤ maxLen ∧ ∀ j u, cs[j]? = some u → ∃ b o, a = some ⟨b, o, none⟩ ∧ w.cell? ⟨b, o + j, none⟩ = some u
theorem SlC.ext {w w' : World} {v : Value} {n : Nat} {cs : List Value} (h : SlC w v n cs) (hx : Ext w w') : SlC w' v n cs := by
  obtain ⟨a, cap, h1, h2, h3, h4⟩ := h
  exact ⟨a, cap, h1, h2, h3, fun j u hu => let ⟨b, o, e1, e2⟩ := h4 j u hu; ⟨b, o, e1, hx.cell e2⟩⟩
theorem SlC.below {B : Nat} {w w' : World} {v : Value} {n : Nat} {cs : List Value} (h : SlC w v n cs) (hB : w.heap.size ≤ B) (hx : Below B w w') : SlC w' v n cs := h.ext (Below.mono hx hB)
theorem SlC.of_owns {w : World} {base : Nat} {e : TypeId} {size : Nat} {v : Value} {n : Nat} {xs : List Value} (h : w.ownsRow base e size v n xs) : SlC w v n xs := by
  rcases h.2 with ⟨rfl, rfl⟩ | ⟨g, cap, cur, rfl, hb, hg, hnc, hcm, hcs, htake⟩
  · have hx : xs = [] := List.eq_nil_of_length_eq_zero (by simpa using h.1)
    subst hx
    exact ⟨none, 0, rfl, Nat.le_refl _, Nat.zero_le _, fun j u hu => by simp at hu⟩
  · refine ⟨some ⟨g, 0, none⟩, cap, rfl, hnc, hcm, fun j u hu => ⟨g, 0, rfl, ?_⟩⟩
    rw [Nat.zero_add, cell_of_row w g j cur e (0, 0) hg]
    rw [← htake, List.getElem?_take] at hu
    split at hu
    · simpa using hu
    · cases hu
theorem ownsRow_ext {w w' : World} {base : Nat} {e : TypeId} {size : Nat} {v : Value} {n : Nat} {xs : List Value} (h : w.ownsRow base e size v n xs) (hx : Ext w w') : w'.ownsRow base e size v n xs :=
  h.kept (row := none) ⟨hx.os, hx.tape, hx.output, hx.size, fun k hk _ => Below.block hx k hk⟩ (by cases hv : v.ownBlock <;> simp)
theorem ownsRow_base {w : World} {base base' : Nat} {e : TypeId} {size : Nat} {v : Value} {n : Nat} {xs : List Value} (h : w.ownsRow base e size v n xs) (hb : base' ≤ base) : w.ownsRow base' e size v n xs :=
  ⟨h.1, h.2.imp id fun ⟨g, cap, cur, h1, h2, r⟩ => ⟨g, cap, cur, h1, Nat.le_trans hb h2, r⟩⟩
/-- An owned row that holds something begins at the head of a block. -/
theorem ownsRow_some {w : World} {base : Nat} {e : TypeId} {size : Nat} {v : Value} {n : Nat} {xs : List Value} (h : w.ownsRow base e size v n xs) (hn : 0 < n) : ∃ g cap, v = .slice (some ⟨g, 0, none⟩) n cap ∧ base ≤ g ∧ n ≤ cap ∧ g < w.heap.size := by
  rcases h.2 with ⟨_, rfl⟩ | ⟨g, cap, cur, rfl, hb, hg, hnc, _⟩
  · omega
  · exact ⟨g, cap, rfl, hb, hnc, (Array.getElem?_eq_some_iff.1 hg).1⟩
theorem cell_alloc_list (w : World) (news : Array Value) (e : TypeId) (n : Nat) (hn : n = w.heap.size) : ∀ j u, news.toList[j]? = some u → (w.alloc (.cells news e)).cell? ((⟨n, 0, none⟩ : Addr).add j) = some u := by
  intro j u hu
  subst hn
  have hadd : (⟨w.heap.size, 0, none⟩ : Addr).add j = ⟨w.heap.size, j, none⟩ := by unfold Addr.add; split <;> simp_all
  rw [hadd, cell_of_row _ _ j news e (0, 0) (heap_alloc_last w _)]
  simpa using hu
/-- 'append(s, x, ..)': what is appended lies in the block that was made last. -/
theorem wpList_append_lit {P : Program} {ops : Array Oper} {rest : List Oper} {o : Oper} {a : Act} {wr : World} {Q : Exit → Act → World → Prop} (hgd : o.guard = none) (s x : Operand) (t e : TypeId)
    (ho : o.op = .call { callee := .builtin .append, args := #[s, x], argTypes := #[t, t] }) (z : Value) (size bytes : Nat) (ht : P.underlying t = some (.slice e))
    (hinfo : (P.info? e).map (fun i => (i.zero, i.size, i.bytes)) = some (some z, size, bytes)) (hzs : z.cells.size = size) (hsz : 0 < size)
    (base : Nat) (v : Value) (n : Nat) (xs : List Value) (hs : a.eval s = v) (hown : wr.ownsRow base e size v n xs) (m c nb : Nat) (news : Array Value)
    (hx : a.eval x = .slice (some ⟨nb, 0, none⟩) m c) (hnb : nb = wr.heap.size) (hl : news.size = m * size) (h1 : news.all (·.oneCell') = true)
    (h63 : n + m ≤ maxLen) (hbytes : (n + m) * bytes ≤ 140737488355328) (hbase : base ≤ wr.heap.size)
    (h : ∀ v' w', w'.ownsRow base e size v' (n + m) (xs ++ news.toList) → (wr.alloc (.cells news e)).grownBy w' v.ownBlock → Below base wr w' → wpList P ops Q rest (a.put o.dst v') w') :
    wpList P ops Q (o :: rest) a (wr.alloc (.cells news e)) := by
  obtain ⟨i0, hi, hz0, hz1, hz2⟩ := info_parts hinfo
  refine wpList_append_own _ hgd s x t ho base e i0 z size bytes ht hi hz0 hz1 hz2 hzs hsz v n xs hs (hown.alloc _) ⟨nb, 0, none⟩ m c news.toList hx (by simpa using hl) (cell_alloc_list _ _ _ _ hnb)
    (fun u hu => (Array.all_eq_true_iff_forall_mem.1 h1) u (by simpa using hu)) h63 hbytes (by simp; omega) ?_
  intro v' w' hown' hg _
  refine h v' w' hown' hg ?_
  refine Below.grown ((Below.refl base wr).alloc hbase _) hg (by simp; omega) (fun k hk => (hown.lt k hk).1)
/-- A result that lies in one row of memory. -/
theorem ret_row {P : Program} {fn : Func} {R : Ending → World → Prop} {a : Act} {w : World} {p : Tmp} {ty : TypeId} (h : fn.results = #[.cell p ty]) (n : Nat) (t : TypeId) (cs : Array Value) (d : TypeDesc)
    (hp : a.tmps.getD p undef = .pointer (some ⟨n, 0, none⟩)) (hg : w.heap[n]? = some (.cells cs t (0, 0)))
    (hu : P.underlying ty = some d) (hd : (match d with | .struct _ | .array _ _ => true | _ => false) = true) (hi : (P.info? ty).map (·.size) = some cs.size) (hdf : a.defers = [])
    (hR : R (.returned (.agg cs)) w) : bodyPost P fn R .ret a w :=
  bodyPost_ret (results_cell_row h _ _ _ _ _ _ _ hp hg hu hd hi) hdf hR
end Go.Proofs.YtdjnekcpeaadhaaGreat
namespace Go.Proofs.YtdjnekcpeaadhaaGreat
open Go.ChangeShapes Go.WideShapes Go.ChangeAt Go.RowKit
theorem post_of_ext {P : Program} {H : Type} {enc : TypeId × Value → H} {f : Func} {s : ChangeSpec} {apart fresh handsOn : Bool} {W W' : World} {args : Array Value} {v : Value} {ds gs : List (DataW H)} {before pa pv : List MemPlace}
    (hW : DataW.Whole enc P f.params.toList s.vars apart W args.toList ds gs before)
    (hres : ∀ (b : Nat) (sp : Nat → Bool) (hd : Bool), DataW.TrodAll enc P W' b sp hd f.resultTypes.toList (v.resultList f.resultTypes.size) (s.fn H (ds ++ gs)).results [])
    (hargs : ∀ sp : Nat → Bool, (∀ p ∈ before, sp p.block = true) → DataW.TrodAll enc P W' 0 sp true f.params.toList args.toList (s.fn H (ds ++ gs)).args pa)
    (hvars : ∀ sp : Nat → Bool, (∀ p ∈ before, sp p.block = true) → DataW.TrodVars enc P W' sp s.vars (s.fn H (ds ++ gs)).vars pv)
    (_hps : before = pa ++ pv) (hx : Ext W W') :
    s.post enc P f apart fresh handsOn false W args v W' := by
  have hold : ∀ p ∈ before, (fun b => decide (b < W.heap.size)) p.block = true := fun p hp => by simpa using hW.lt p hp
  refine ⟨ds, gs, before, [], pa, pv, hW, hres _ _ _, hargs _ hold, hvars _ hold, Below.frame hx _, fun h => by cases h⟩
theorem wf_I64 {a : Int} (h : (Lit.int .i64 a).wf = true) : -9223372036854775808 ≤ a ∧ a < 9223372036854775808 := by
  simp [Lit.wf, IntKind.min, IntKind.max, IntKind.signed, IntKind.bits] at h
  omega
end Go.Proofs.YtdjnekcpeaadhaaGreat
namespace Go.Proofs.YtdjnekcpeaadhaaGreat
open Go.RowKit Go.ChangeShapes Go.WideShapes Go.ChangeAt
set_option linter.unusedSimpArgs false
set_option linter.unusedVariables false
set_option maxRecDepth 100000

theorem trodAll_below {P : Program} {H : Type} {enc : TypeId × Value → H} {W W' : World} (hl : laidOutB P = true) (hx : Ext W W') : ∀ {ts : List TypeId} {vs : List Value} {ds : List (DataW H)} {ps : List MemPlace},
    (∀ t ∈ ts, P.readableRec t = true ∧ t < P.types.size) → (∀ p ∈ ps, p.block < W.heap.size) → DataW.TrodAll enc P W 0 (fun _ => true) true ts vs ds ps →
    DataW.TrodAll enc P W' 0 (fun b => decide (b < W.heap.size)) true ts vs ds ps
  | [], [], [], _, _, _, h => h
  | _ :: _, _ :: _, _ :: _, _, hT, hs, ⟨p, q, h1, h2, e⟩ =>
    ⟨p, q, Below.trod hl (hT _ (List.mem_cons.2 (.inl rfl))).1 (hT _ (List.mem_cons.2 (.inl rfl))).2 h1 hx (fun x hx => hs x (by rw [e]; exact List.mem_append_left _ hx)),
      trodAll_below hl hx (fun t ht => hT t (List.mem_cons.2 (.inr ht))) (fun x hx => hs x (by rw [e]; exact List.mem_append_right _ hx)) h2, e⟩

/-- A law that answers a bool and leaves what was there as it was. -/
theorem post_of_ext2 {P : Program} {H : Type} {enc : TypeId × Value → H} {f : Func} {s : ChangeSpec} {apart fresh handsOn : Bool} {W W' : World} {args : Array Value} {v : Value} {ds gs : List (DataW H)} {before : List MemPlace} (hl : laidOutB P = true)
    (hT0 : (f.params.toList.all fun t => P.readableRec t && decide (t < P.types.size)) = true) (hvs : s.vars = [])
    (hW : DataW.Whole enc P f.params.toList s.vars apart W args.toList ds gs before)
    (hargs : (s.fn H (ds ++ gs)).args = ds) (hvars : (s.fn H (ds ++ gs)).vars = [])
    (hres : ∀ (b : Nat) (sp : Nat → Bool) (hd : Bool), DataW.TrodAll enc P W' b sp hd f.resultTypes.toList (v.resultList f.resultTypes.size) (s.fn H (ds ++ gs)).results [])
    (hx : Ext W W') : s.post enc P f apart fresh handsOn false W args v W' := by
  have hT : ∀ t ∈ f.params.toList, P.readableRec t = true ∧ t < P.types.size := fun t ht => by simpa using List.all_eq_true.1 hT0 t ht
  have hlt : ∀ p ∈ before, p.block < W.heap.size := fun p hp => hW.lt p hp
  have hW' := hW
  obtain ⟨p, q, hA, hV, hpq, hfz, hnd⟩ := hW'
  rw [hvs] at hV
  obtain ⟨rfl, rfl⟩ := trodVars_none hV
  rw [List.append_nil] at hpq
  subst hpq
  refine ⟨ds, [], before, [], before, [], hW, hres _ _ _, ?_, ?_, Below.frame hx _, fun h => by cases h⟩
  · rw [hargs]; exact trodAll_below hl hx hT hlt hA
  · rw [hvs, hvars]; rfl

theorem slot_add (b o : Nat) (j : Nat) : (⟨b, o, none⟩ : Addr).add j = ⟨b, o + j, none⟩ := by
  unfold Addr.add; split
  · next h0 => have : j = 0 := by simpa using h0
               rw [this]; rfl
  · rfl
theorem slc_at {w : World} {a : Addr} {len cap : Nat} {l : List Value} (hl : len ≤ cap) (hc : cap ≤ maxLen) (h : ∀ j u, l[j]? = some u → w.cell? (a.add j) = some u) : SlC w (.slice (some a) len cap) len l := by
  refine ⟨some a, cap, rfl, hl, hc, fun j u hu => ?_⟩
  have h0 : 0 < l.length := Nat.lt_of_le_of_lt (Nat.zero_le j) (List.getElem?_eq_some_iff.1 hu).1
  have h1 := World.cell?_spot (h 0 _ (List.getElem?_eq_getElem h0))
  obtain ⟨b, o, s⟩ := a
  simp [Addr.add] at h1
  subst h1
  exact ⟨b, o, rfl, by rw [← slot_add]; exact h j u hu⟩
/-- A slice of numbers that came in. -/
theorem open_numbers {P : Program} {H : Type} {enc : TypeId × Value → H} {w : World} {base : Nat} {sp : Nat → Bool} {held : Bool} {t e : TypeId} {k : IntKind} {fuel : Nat} {v : Value} {x : DataW H × List MemPlace} (ht : P.underlying t = some (.slice e)) (he : P.underlying e = some (.int k)) (hc : P.cellsOf e = 1)
    (h : DataW.trod enc P w base sp held fuel t [v] = some x) : ∃ l : List Int, SlC w v l.length (l.map (.int k)) ∧ ∀ n ∈ l, (Lit.int k n).wf = true := by
  rcases open_ints ht he hc h with ⟨e1, rfl⟩ | ⟨a, len, cap, zs, e1, hb, hl, hcm, hlen, rfl, hcell, hwf⟩
  · simp only [List.cons.injEq, and_true] at e1
    subst e1
    exact ⟨[], ⟨none, 0, rfl, Nat.le_refl _, Nat.zero_le _, fun j u hu => by simp at hu⟩, fun n hn => by cases hn⟩
  · simp only [List.cons.injEq, and_true] at e1
    subst e1
    have hz : len ≤ zs.length := by rw [hlen]; split <;> omega
    have e2 : (zs.take len).length = len := by rw [List.length_take]; omega
    refine ⟨zs.take len, ?_, fun n hn => hwf n (List.mem_of_mem_take hn)⟩
    rw [e2]
    refine slc_at hl hcm fun j u hu => ?_
    have hj : j < len := by have := (List.getElem?_eq_some_iff.1 hu).1; rw [List.length_map, e2] at this; exact this
    rw [hcell j (by omega)]
    rw [List.getElem?_map, List.getElem?_take_of_lt hj, List.getElem?_eq_getElem (by omega)] at hu
    rw [← Option.some.inj hu]
    simp [List.getD, List.getElem?_eq_getElem (show j < zs.length by omega)]
/-- A struct whose field at offset o is one cell. -/
theorem trod_fields {P : Program} {H : Type} {enc : TypeId × Value → H} {w : World} {base : Nat} {sp : Nat → Bool} {held : Bool} {t : TypeId} {fs : Array Field} {fuel : Nat} {cs : List Value} {x : DataW H × List MemPlace} (ht : P.underlying t = some (.struct fs))
    (h : DataW.trod enc P w base sp held fuel t cs = some x) : ∃ n, cs.length = P.cellsOf t ∧ ∀ (i o : Nat) (ty : TypeId) (v : Value), (fs[i]?).map (fun f => (f.type, f.offset)) = some (ty, o) → P.cellsOf ty = 1 → cs[o]? = some v → ∃ y, DataW.trod enc P w base sp held n ty [v] = some y := by
  obtain ⟨xs, n, rfl, _, hl, hxl, hf⟩ := DataW.trod_struct ht h
  refine ⟨n, hl, fun i o ty v hfs hc hv => ?_⟩
  obtain ⟨f, hfi, e⟩ := Option.map_eq_some_iff.1 hfs
  simp only [Prod.mk.injEq] at e
  obtain ⟨rfl, rfl⟩ := e
  have := hf i f hfi
  have hi : i < xs.length := by rw [hxl]; exact (Array.getElem?_eq_some_iff.1 hfi).1
  obtain ⟨ho, hov⟩ := List.getElem?_eq_some_iff.1 hv
  rw [hc, List.drop_eq_getElem_cons ho, List.take_succ_cons, List.take_zero, hov, List.getElem?_eq_getElem hi] at this
  exact ⟨_, this⟩
theorem okWide_agg {P : Program} {w : World} {r : Reach} {b : Nat} {t : TypeId} {v : Value} {fs : Array Field} (ht : P.underlying t = some (.struct fs)) (h : Value.okWide P w r b t v) : ∃ cs, v = .agg cs := by
  unfold Value.okWide at h
  rw [ht] at h
  obtain ⟨cs, e, _⟩ := h
  exact ⟨cs, e⟩
end Go.Proofs.YtdjnekcpeaadhaaGreat
namespace Go.Proofs.YtdjnekcpeaadhaaGreat
open Go.RowKit
set_option linter.unusedSimpArgs false
set_option linter.unusedVariables false
set_option maxRecDepth 100000

section
variable {P : Program} {ops : Array Oper} {Q : Exit → Act → World → Prop} {md : Region.Mode} {S : World → Prop} {n : Nat} {R : Array Bool → Act → World → Prop}
/-- Whatever order is picked among the first n operations, f of them still to come; S behind each; R at their end. -/
def HeadS (P : Program) (md : Region.Mode) (ops : Array Oper) (Q : Exit → Act → World → Prop) (S : World → Prop) (n : Nat) (R : Array Bool → Act → World → Prop) : Nat → Array Bool → Act → World → Prop
  | 0, listed, a, w => R listed a w
  | f + 1, listed, a, w => HeadInv md ops n listed → Region.ready md ops listed ≠ [] ∧ ∀ i ∈ Region.ready md ops listed, i < n ∧ wpOp P ops Q i (fun a' w' => S w' ∧ HeadS P md ops Q S n R f (listed.setIfInBounds i true) a' w') a w
theorem any_of_headS {g : Nat} (hR : ∀ listed a w, R listed a w → wpAny P md ops Q g listed a w) :
    ∀ (f : Nat) (listed : Array Bool) (a : Act) (w : World), HeadInv md ops n listed → HeadS P md ops Q S n R f listed a w → wpAny P md ops Q (f + g) listed a w := by
  intro f
  induction f with
  | zero => intro listed a w _ h; rw [Nat.zero_add]; exact hR _ _ _ h
  | succ f ih =>
    intro listed a w inv h
    obtain ⟨h0, h1⟩ := h inv
    rw [show f + 1 + g = (f + g) + 1 from by omega]
    exact ⟨fun e => absurd e h0, fun i hi => wpOp_mono (fun a' w' h' => ih _ a' w' (inv.set hi (h1 i hi).1) h'.2) (h1 i hi).2⟩
theorem headS_first {i : Nat} {oi : Oper} {v : Value} (hi : ops[i]? = some oi) (hsel : ∀ (j : Nat) (o : Oper) cs b, ops[j]? = some o → o.op ≠ .select cs b)
    (hQ : ∀ c a w, Q (.panic c) (a.put oi.dst v) w → Q (.panic c) a w) (hs : Region.sinkB md ops n = true) (hc : Region.chainB md ops n = true) (hn : n < ops.size) (hin : i < n)
    (hdone : ∀ listed a w, R listed a w → ∀ j ∈ Region.ready md ops listed, n ≤ j) :
    ∀ (f : Nat) (listed : Array Bool) (a : Act) (w : World),
      (∀ j oj, ops[j]? = some oj → j ≠ i → listed.getD j true = false → (∀ e ∈ oj.after, Region.binds md e = true → e.on ≠ i) → oi.apart ops oj = true) →
      i ∈ Region.ready md ops listed → YieldsIf P ops S oi v a → S w →
      HeadS P md ops Q S n R f (listed.setIfInBounds i true) (a.put oi.dst v) w → HeadS P md ops Q S n R (f + 1) listed a w := by
  intro f
  induction f with
  | zero =>
    intro listed a w _ hr hy hS H inv
    refine ⟨fun h => (by rw [h] at hr; cases hr), fun j hj => ?_⟩
    have hun := (mem_ready.1 hr).1
    by_cases hjn : j < n
    · refine ⟨hjn, ?_⟩
      by_cases hji : j = i
      · subst hji; exact hy.wpOp hi hS ⟨hS, H⟩
      · have := hdone _ _ _ H j (ready_mono hj hji)
        omega
    · exact absurd hj (tail_waits hs hc hn inv _ i rfl hin hun j (by omega))
  | succ f ih =>
    intro listed a w hfree hr hy hS H inv
    refine ⟨fun h => (by rw [h] at hr; cases hr), fun j hj => ?_⟩
    have hun := (mem_ready.1 hr).1
    by_cases hjn : j < n
    · refine ⟨hjn, ?_⟩
      by_cases hji : j = i
      · subst hji; exact hy.wpOp hi hS ⟨hS, H⟩
      · have h1 := ((H (inv.set hr hin)).2 j (ready_mono hj hji)).2
        obtain ⟨hjun, oj, hoj, hall⟩ := mem_ready.1 hj
        have hnot : ∀ e ∈ oj.after, Region.binds md e = true → e.on ≠ i := fun e he hb heq => by
          have h3 := hall e he hb
          rw [heq, getD_both hun] at h3
          cases h3
        have h2 := wpOp_putIf hoj (hfree j oj hoj hji hjun hnot) (fun cs b => hsel i oi cs b hi) (fun cs b => hsel j oj cs b hoj) hQ hy h1
        have hfree' : ∀ k ok, ops[k]? = some ok → k ≠ i → (listed.setIfInBounds j true).getD k true = false →
            (∀ e ∈ ok.after, Region.binds md e = true → e.on ≠ i) → oi.apart ops ok = true := fun k ok hk hki hun hno => by
          refine hfree k ok hk hki ?_ hno
          by_cases hjk : j = k
          · subst hjk; exact hjun
          · rw [getD_set_ne true hjk] at hun; exact hun
        refine wpOp_mono (fun a' w' h3 => ⟨h3.2.1, ih (listed.setIfInBounds j true) a' w' hfree' (ready_mono hr (Ne.symm hji)) h3.1 h3.2.1 ?_⟩) h2
        rw [Array.setIfInBounds_comm _ _ hji]
        exact h3.2.2
    · exact absurd hj (tail_waits hs hc hn inv _ i rfl hin hun j (by omega))
end
section
variable {P : Program} {l : List Oper} {Q : Exit → Act → World → Prop} {S : World → Prop} {n : Nat}
/-- The rest stands in one order. -/
def TailR (P : Program) (l : List Oper) (Q : Exit → Act → World → Prop) (n : Nat) (listed : Array Bool) (a : Act) (w : World) : Prop := Region.seqB .any l.toArray (l.length - n) n listed = true ∧ wpList P l.toArray Q (l.drop n) a w
def Hd (P : Program) (l : List Oper) (Q : Exit → Act → World → Prop) (S : World → Prop) (n : Nat) (f : Nat) (listed : Array Bool) (a : Act) (w : World) : Prop := HeadS P .any l.toArray Q S n (TailR P l Q n) f listed a w
def tailB (l : List Oper) (n : Nat) : Bool := Region.noSelect l.toArray && decide (n < l.length) && Region.sinkB .any l.toArray n && Region.chainB .any l.toArray n
/-- The beginning. -/
theorem hd_begin {id : Nat} {a : Act} {w : World} (n : Nat) (hm : P.follows .mixedOrders = true) (hB : tailB l n = true) (hS : S w.drew) (h : S w.drew → Hd P l Q S n n (Array.replicate l.length false) a w.drew) : (Code.region id l.toArray true).wp P Q a w := by
  simp only [tailB, Bool.and_eq_true, decide_eq_true_eq] at hB
  obtain ⟨⟨⟨_, hn⟩, _⟩, _⟩ := hB
  have inv0 : HeadInv .any l.toArray n (Array.replicate l.length false) :=
    ⟨by simp, fun j oj _ hl => (by rw [getD_replicate_false] at hl; cases hl), fun t _ ht => getD_in (by simpa using ht) (getD_replicate_false _ _)⟩
  have hdl : (l.drop n).length = l.length - n := by simp
  refine wp_region_any hm ?_
  have := any_of_headS (Q := Q) (S := S) (R := TailR P l Q n) (g := l.length - n) (fun listed a' w' hR => by
    have := wpAny_of_seq (md := .any) (Q' := Q) (l.drop n) n listed a' w' (fun j => by simp [List.getElem?_drop]) (by rw [hdl]; exact hR.1) hR.2
    rwa [hdl] at this) n _ a _ inv0 (h hS)
  rw [show n + (l.length - n) = l.toArray.size from by simp; omega] at this
  simpa using this
/-- Number i is taken first: it yields v in every world that meets S. -/
theorem hd_take {i f : Nat} {oi : Oper} {v : Value} {listed : Array Bool} {a : Act} {w : World} (hi : l[i]? = some oi) (hB : tailB l n = true) (hB2 : (decide (i < n) && Region.free .any l.toArray listed i && (Region.ready .any l.toArray listed).contains i) = true)
    (hQ : ∀ c a w, Q (.panic c) (a.put oi.dst v) w → Q (.panic c) a w) (hy : YieldsIf P l.toArray S oi v a) (hS : S w) (h : Hd P l Q S n f (listed.setIfInBounds i true) (a.put oi.dst v) w) : Hd P l Q S n (f + 1) listed a w := by
  simp only [tailB, Bool.and_eq_true, decide_eq_true_eq] at hB hB2
  obtain ⟨⟨⟨hsel, hn⟩, hs⟩, hc⟩ := hB
  obtain ⟨⟨hin, hf⟩, hr⟩ := hB2
  have hi' : l.toArray[i]? = some oi := by simpa using hi
  exact headS_first hi' (Region.noSelect_spec hsel) hQ hs hc (by simpa using hn) hin (fun _ _ _ hR => seqB_ready hR.1) f listed a w (Region.free_spec hi' hf) (by simpa using hr) hy hS h
/-- Number i alone may come up. -/
theorem hd_one {i f : Nat} {o : Oper} {listed : Array Bool} {a : Act} {w : World} (hi : l[i]? = some o) (hr : Region.ready .any l.toArray listed = [i]) (hin : i < n)
    (h : ∀ K' : Act → World → Prop, Shut (∀ a w, S w → (S w → Hd P l Q S n f (listed.setIfInBounds i true) a w) → K' a w) → if Region.wanted o (yielded l.toArray a.tmps) = true then Oper.wp P o a w K' Q else K' (a.put o.dst undef) w) : Hd P l Q S n (f + 1) listed a w := by
  intro _
  rw [hr]
  refine ⟨by simp, fun j hj => ?_⟩
  obtain rfl := List.mem_singleton.1 hj
  exact ⟨hin, wpOp_step (by simpa using hi) (fun K' hK => h K' (fun a w hS hW => hK a w ⟨hS, hW hS⟩))⟩
/-- The head is over. -/
theorem hd_end {listed : Array Bool} {a : Act} {w : World} (hB : Region.seqB .any l.toArray (l.length - n) n listed = true) (h : wpList P l.toArray Q (l.drop n) a w) : Hd P l Q S n 0 listed a w := ⟨hB, h⟩
end
end Go.Proofs.YtdjnekcpeaadhaaGreat
namespace Go.Proofs.YtdjnekcpeaadhaaGreat
open Go.RowKit
set_option linter.unusedSimpArgs false
set_option linter.unusedVariables false
set_option maxRecDepth 100000

/-- A gate. -/
structure GateV where
  op : Int
  a : Int
  b : Int
/-- A gate stands where it is. -/
def gateOk (i : Nat) (q : GateV) : Bool :=
  if q.op = 1 ∨ q.op = 2 then decide (q.a = 0 ∧ q.b = 0) else if q.op = 3 then decide (0 ≤ q.a ∧ 0 ≤ q.b ∧ q.a < 2 * (i : Int) ∧ q.b < 2 * (i : Int)) else false
/-- All gates from place i on stand where they are. -/
def netOk : Nat → List GateV → Bool
  | _, [] => true
  | i, q :: l => gateOk i q && netOk (i + 1) l
def chkN (l : List GateV) : Int := if netOk 0 l then 0 else 40
theorem netOk_at : ∀ {l : List GateV} {i j : Nat} {q : GateV}, netOk i l = true → l[j]? = some q → gateOk (i + j) q = true
  | q' :: l, i, j, q, h, hq => by
    simp only [netOk, Bool.and_eq_true] at h
    match j with
    | 0 => simp at hq; subst hq; simpa using h.1
    | j + 1 => simp at hq; have := netOk_at (i := i + 1) h.2 hq; rwa [show i + (j + 1) = i + 1 + j by omega]
theorem netOk_append : ∀ {l m : List GateV} {i : Nat}, netOk i (l ++ m) = (netOk i l && netOk (i + l.length) m)
  | [], m, i => by simp [netOk]
  | q :: l, m, i => by
    simp only [List.cons_append, netOk, List.length_cons]
    rw [netOk_append (l := l) (m := m) (i := i + 1), Bool.and_assoc, show i + 1 + l.length = i + (l.length + 1) by omega]
theorem netOk_take {l : List GateV} {j : Nat} {q : GateV} (hq : l[j]? = some q) : netOk 0 (l.take (j + 1)) = (netOk 0 (l.take j) && gateOk j q) := by
  have hj := (List.getElem?_eq_some_iff.1 hq).1
  rw [List.take_add_one, hq, Option.toList_some, netOk_append, List.length_take, Nat.min_eq_left (by omega)]
  simp [netOk]
theorem netOk_false {l : List GateV} {j : Nat} {q : GateV} (hq : l[j]? = some q) (h : gateOk j q = false) : netOk 0 l = false := by
  cases h0 : netOk 0 l with
  | false => rfl
  | true => have := netOk_at h0 hq; rw [Nat.zero_add, h] at this; cases this

/-- The inputs among gates. -/
def insN (l : List GateV) : Nat := (l.filter fun q => q.op == 2).length
/-- A wire's value. -/
def wireV (v : List Bool) (w : Int) : Bool := (v.getD (w.toNat / 2) false) != (w.toNat % 2 == 1)
/-- Gates' values, one behind the other. -/
def evalN : List GateV → List Bool → List Bool → List Bool
  | [], v, _ => v
  | q :: l, v, ins => if q.op = 2 then evalN l (v ++ [ins.headD false]) ins.tail else if q.op = 3 then evalN l (v ++ [wireV v q.a && wireV v q.b]) ins else evalN l (v ++ [false]) ins
theorem evalN_len : ∀ (l : List GateV) (v ins : List Bool), (evalN l v ins).length = v.length + l.length
  | [], v, ins => rfl
  | q :: l, v, ins => by
    unfold evalN
    split
    · rw [evalN_len]; simp; omega
    · split
      · rw [evalN_len]; simp; omega
      · rw [evalN_len]; simp; omega
theorem evalN_old : ∀ (l : List GateV) (v ins : List Bool) (j : Nat), j < v.length → (evalN l v ins)[j]? = v[j]?
  | [], v, ins, j, hj => rfl
  | q :: l, v, ins, j, hj => by
    unfold evalN
    split
    · rw [evalN_old _ _ _ _ (by simp; omega), List.getElem?_append_left hj]
    · split
      · rw [evalN_old _ _ _ _ (by simp; omega), List.getElem?_append_left hj]
      · rw [evalN_old _ _ _ _ (by simp; omega), List.getElem?_append_left hj]
theorem wireV_old {v u : List Bool} {w : Int} (h : ∀ j, j < v.length → u[j]? = v[j]?) (hw : 0 ≤ w ∧ w < 2 * (v.length : Int)) : wireV u w = wireV v w := by
  unfold wireV
  have : w.toNat / 2 < v.length := by omega
  simp only [List.getD, h _ this]
/-- Each gate tells what it is to. -/
theorem evalN_at : ∀ (l : List GateV) (v ins : List Bool) (j : Nat) (q : GateV), netOk v.length l = true → l[j]? = some q →
    (q.op = 1 → (evalN l v ins)[v.length + j]? = some false) ∧ (q.op = 3 → (evalN l v ins)[v.length + j]? = some (wireV (evalN l v ins) q.a && wireV (evalN l v ins) q.b))
  | q' :: l, v, ins, 0, q, hn, hq => by
    simp only [List.getElem?_cons_zero, Option.some.injEq] at hq
    subst hq
    simp only [netOk, Bool.and_eq_true] at hn
    constructor
    · intro h1
      unfold evalN
      rw [if_neg (by omega), if_neg (by omega), evalN_old _ _ _ _ (by simp)]
      simp
    · intro h3
      have hg := hn.1
      unfold gateOk at hg
      rw [if_neg (by omega), if_pos h3] at hg
      simp only [decide_eq_true_eq] at hg
      have e : evalN (q' :: l) v ins = evalN l (v ++ [wireV v q'.a && wireV v q'.b]) ins := by
        conv => lhs; unfold evalN
        rw [if_neg (by omega), if_pos h3]
      rw [e]
      have ho : ∀ j, j < v.length → (evalN l (v ++ [wireV v q'.a && wireV v q'.b]) ins)[j]? = v[j]? := fun j hj => by
        rw [evalN_old _ _ _ _ (by simp; omega), List.getElem?_append_left hj]
      rw [wireV_old ho ⟨hg.1, hg.2.2.1⟩, wireV_old ho ⟨hg.2.1, hg.2.2.2⟩, evalN_old _ _ _ _ (by simp)]
      simp
  | q' :: l, v, ins, j + 1, q, hn, hq => by
    simp only [List.getElem?_cons_succ] at hq
    simp only [netOk, Bool.and_eq_true] at hn
    unfold evalN
    split
    · have := evalN_at l (v ++ [ins.headD false]) ins.tail j q (by simpa using hn.2) hq
      simpa [Nat.add_assoc, Nat.add_comm 1 j] using this
    · split
      · have := evalN_at l (v ++ [wireV v q'.a && wireV v q'.b]) ins j q (by simpa using hn.2) hq
        simpa [Nat.add_assoc, Nat.add_comm 1 j] using this
      · have := evalN_at l (v ++ [false]) ins j q (by simpa using hn.2) hq
        simpa [Nat.add_assoc, Nat.add_comm 1 j] using this

/-- How much there is in clauses. -/
def szF : List (List Int) → Nat
  | [] => 0
  | c :: l => c.length + 1 + szF l
theorem szF_append (l m : List (List Int)) : szF (l ++ m) = szF l + szF m := by
  induction l with
  | nil => simp [szF]
  | cons c l ih => simp only [List.cons_append, szF, ih]; omega
theorem szF_take {l : List (List Int)} {j : Nat} {c : List Int} (h : l[j]? = some c) : szF (l.take (j + 1)) = szF (l.take j) + (c.length + 1) := by
  rw [List.take_add_one, h, Option.toList_some, szF_append]
  simp [szF]
theorem szF_le (l : List (List Int)) (j : Nat) : szF (l.take j) ≤ szF l := by
  have := szF_append (l.take j) (l.drop j)
  rw [List.take_append_drop] at this
  omega
theorem szF_len (l : List (List Int)) : l.length ≤ szF l := by
  induction l with
  | nil => simp [szF]
  | cons c l ih => simp only [List.length_cons, szF]; omega
theorem szF_mem {l : List (List Int)} {c : List Int} (h : c ∈ l) : c.length + 1 ≤ szF l := by
  induction l with
  | nil => cases h
  | cons d l ih =>
    simp only [szF]
    rcases List.mem_cons.1 h with e | e
    · subst e; omega
    · have := ih e; omega
/-- Is a number a literal of one of so many variables? -/
def litOk (vars l : Int) : Bool := (l != 0) && decide (l ≤ vars) && decide (-vars ≤ l)
def clOk (vars : Int) (c : List Int) : Bool := c.all (litOk vars)
def frmOk (vars : Int) (l : List (List Int)) : Bool := l.all (clOk vars)
def chkF (vars : Int) (l : List (List Int)) : Int := if vars < 0 then 40 else if frmOk vars l then 0 else 40
/-- Does a literal hold? -/
def litV (m : List Bool) (l : Int) : Bool := if l < 0 then !(m.getD (-l).toNat false) else m.getD l.toNat false
def clV (m : List Bool) (c : List Int) : Bool := c.any (litV m)
def frmV (m : List Bool) (l : List (List Int)) : Bool := l.all (clV m)
def holdsF (vars : Int) (l : List (List Int)) (m : List Bool) : Bool := (chkF vars l == 0) && decide ((m.length : Int) = vars + 1) && frmV m l

/-- A wire's literal. -/
def litW (w : Int) : Int := if w.toNat % 2 = 1 then -((w.toNat / 2 : Nat) + 1 : Int) else ((w.toNat / 2 : Nat) : Int) + 1
/-- A gate's clauses. -/
def gateC (i : Nat) (q : GateV) : List (List Int) :=
  if q.op = 1 then [[-((i : Int) + 1)]] else if q.op = 3 then [[-((i : Int) + 1), litW q.a], [-((i : Int) + 1), litW q.b], [(i : Int) + 1, -litW q.a, -litW q.b]] else []
def clsN : Nat → List GateV → List (List Int)
  | _, [] => []
  | i, q :: l => gateC i q ++ clsN (i + 1) l
theorem clsN_append : ∀ (l m : List GateV) (i : Nat), clsN i (l ++ m) = clsN i l ++ clsN (i + l.length) m
  | [], m, i => by simp [clsN]
  | q :: l, m, i => by
    simp only [List.cons_append, clsN, List.length_cons]
    rw [clsN_append l m (i + 1), List.append_assoc, show i + 1 + l.length = i + (l.length + 1) by omega]
theorem clsN_take {l : List GateV} {j : Nat} {q : GateV} (hq : l[j]? = some q) : clsN 0 (l.take (j + 1)) = clsN 0 (l.take j) ++ gateC j q := by
  have hj := (List.getElem?_eq_some_iff.1 hq).1
  rw [List.take_add_one, hq, Option.toList_some, clsN_append, List.length_take, Nat.min_eq_left (by omega)]
  simp [clsN]
theorem mem_clsN : ∀ {l : List GateV} {i : Nat} {c : List Int}, c ∈ clsN i l ↔ ∃ j q, l[j]? = some q ∧ c ∈ gateC (i + j) q
  | [], i, c => by simp [clsN]
  | q :: l, i, c => by
    simp only [clsN, List.mem_append, mem_clsN]
    constructor
    · rintro (h | ⟨j, q', h1, h2⟩)
      · exact ⟨0, q, rfl, by simpa using h⟩
      · exact ⟨j + 1, q', by simpa using h1, by rwa [show i + (j + 1) = i + 1 + j by omega]⟩
    · rintro ⟨j, q', h1, h2⟩
      match j with
      | 0 => simp at h1; subst h1; exact .inl (by simpa using h2)
      | j + 1 => exact .inr ⟨j, q', by simpa using h1, by rwa [show i + 1 + j = i + (j + 1) by omega]⟩
def wireOk (n : Nat) (w : Int) : Bool := decide (0 ≤ w) && decide (w < 2 * (n : Int))
def ofN (l : List GateV) (wires : List Int) : List (List Int) := clsN 0 l ++ wires.map fun w => [litW w]
theorem gateC_sz (i : Nat) (q : GateV) : szF (gateC i q) ≤ 10 := by
  unfold gateC
  split
  · simp [szF]
  · split
    · simp [szF]
    · simp [szF]
theorem clsN_sz : ∀ (l : List GateV) (i : Nat), szF (clsN i l) ≤ 10 * l.length
  | [], i => by simp [clsN, szF]
  | q :: l, i => by
    simp only [clsN, szF_append, List.length_cons]
    have := gateC_sz i q
    have := clsN_sz l (i + 1)
    omega
theorem wires_sz (ws : List Int) : szF (ws.map fun w => [litW w]) = 2 * ws.length := by
  induction ws with
  | nil => rfl
  | cons w l ih => simp only [List.map_cons, szF, ih, List.length_cons, List.length_nil]; omega
theorem ofN_sz (l : List GateV) (ws : List Int) : szF (ofN l ws) ≤ 10 * l.length + 2 * ws.length := by
  unfold ofN
  rw [szF_append, wires_sz]
  have := clsN_sz l 0
  omega
theorem litW_ok {n : Nat} {w : Int} (h0 : 0 ≤ w) (h1 : w < 2 * (n : Int)) : litOk n (litW w) = true ∧ litOk n (-litW w) = true := by
  unfold litOk litW
  split <;> simp <;> omega
theorem gateC_ok {n i : Nat} {q : GateV} (hi : i < n) (h : gateOk i q = true) : frmOk n (gateC i q) = true := by
  unfold gateC
  unfold gateOk at h
  split
  · simp [frmOk, clOk, litOk]; omega
  · rename_i h1
    split
    · rename_i h3
      rw [if_neg (by omega), if_pos h3] at h
      simp only [decide_eq_true_eq] at h
      have ha := litW_ok (n := n) h.1 (by omega)
      have hb := litW_ok (n := n) h.2.1 (by omega)
      have hp : litOk n ((i : Int) + 1) = true := by simp [litOk]; omega
      have hm : litOk n (-((i : Int) + 1)) = true := by simp [litOk]; omega
      simp only [frmOk, clOk, List.all_cons, List.all_nil, ha.1, ha.2, hb.1, hb.2, hp, hm, Bool.and_true]
    · simp [frmOk]
theorem ofN_ok {l : List GateV} {ws : List Int} (h : netOk 0 l = true) (hw : ∀ w ∈ ws, wireOk l.length w = true) : chkF l.length (ofN l ws) = 0 := by
  unfold chkF
  rw [if_neg (by omega), if_pos]
  unfold frmOk ofN
  rw [List.all_append, Bool.and_eq_true]
  constructor
  · rw [List.all_eq_true]
    intro c hc
    obtain ⟨j, q, hq, hc⟩ := mem_clsN.1 hc
    have hj := (List.getElem?_eq_some_iff.1 hq).1
    have := gateC_ok (n := l.length) (i := 0 + j) (by omega) (netOk_at h hq)
    exact List.all_eq_true.1 this c hc
  · rw [List.all_eq_true]
    intro c hc
    obtain ⟨w, hw1, rfl⟩ := List.mem_map.1 hc
    have := hw w hw1
    unfold wireOk at this
    simp only [Bool.and_eq_true, decide_eq_true_eq] at this
    simp [clOk, (litW_ok this.1 this.2).1]

/-! What models of a net's formula are. -/
theorem litV_W {m : List Bool} {v : List Bool} {w : Int} (hm : m = false :: v) : litV m (litW w) = wireV v w := by
  subst hm
  unfold litV litW wireV
  by_cases h : w.toNat % 2 = 1
  · rw [if_pos h, if_pos (by omega), h]
    have e : (- -((w.toNat / 2 : Nat) + 1 : Int)).toNat = w.toNat / 2 + 1 := by omega
    rw [e]
    simp [List.getD]
  · rw [if_neg h, if_neg (by omega)]
    have e : (((w.toNat / 2 : Nat) : Int) + 1).toNat = w.toNat / 2 + 1 := by omega
    rw [e]
    have h2 : (w.toNat % 2 == 1) = false := by simpa using h
    rw [h2]
    simp [List.getD]
theorem litV_neg {m : List Bool} {l : Int} (h : l ≠ 0) : litV m (-l) = !litV m l := by
  unfold litV
  by_cases h1 : l < 0
  · rw [if_neg (by omega), if_pos h1]; simp
  · rw [if_pos (by omega), if_neg h1]; simp
theorem litW_ne (w : Int) : litW w ≠ 0 := by unfold litW; split <;> omega
theorem litV_up {v : List Bool} {i : Nat} : litV (false :: v) ((i : Int) + 1) = v.getD i false := by
  unfold litV
  rw [if_neg (by omega)]
  have e : ((i : Int) + 1).toNat = i + 1 := by omega
  rw [e]; simp [List.getD]
/-- A gate's clauses hold just where it tells what it is to. -/
theorem gateC_holds {v : List Bool} {i : Nat} {q : GateV} : frmV (false :: v) (gateC i q) = ((q.op != 1 || !(v.getD i false)) && (q.op != 3 || v.getD i false == (wireV v q.a && wireV v q.b))) := by
  have hn : litV (false :: v) (-((i : Int) + 1)) = !v.getD i false := by rw [litV_neg (by omega), litV_up]
  have ha : litV (false :: v) (litW q.a) = wireV v q.a := litV_W rfl
  have hb : litV (false :: v) (litW q.b) = wireV v q.b := litV_W rfl
  have hna : litV (false :: v) (-litW q.a) = !wireV v q.a := by rw [litV_neg (litW_ne _), ha]
  have hnb : litV (false :: v) (-litW q.b) = !wireV v q.b := by rw [litV_neg (litW_ne _), hb]
  unfold gateC
  by_cases h1 : q.op = 1
  · rw [if_pos h1, h1]
    simp [frmV, clV, hn]
  · rw [if_neg h1]
    by_cases h3 : q.op = 3
    · rw [if_pos h3, h3]
      simp only [frmV, clV, List.all_cons, List.all_nil, List.any_cons, List.any_nil, hn, ha, hb, hna, hnb, litV_up]
      cases v.getD i false <;> cases wireV v q.a <;> cases wireV v q.b <;> rfl
    · rw [if_neg h3]
      have e1 : (q.op != 1) = true := by simpa using h1
      have e3 : (q.op != 3) = true := by simpa using h3
      simp [frmV, e1, e3]
theorem clsN_holds {l : List GateV} {v : List Bool} : frmV (false :: v) (clsN 0 l) = true ↔ ∀ j q, l[j]? = some q → frmV (false :: v) (gateC j q) = true := by
  unfold frmV
  rw [List.all_eq_true]
  constructor
  · intro h j q hq
    rw [List.all_eq_true]
    exact fun c hc => h c (mem_clsN.2 ⟨j, q, hq, by simpa using hc⟩)
  · intro h c hc
    obtain ⟨j, q, hq, hc⟩ := mem_clsN.1 hc
    exact List.all_eq_true.1 (h j q hq) c (by simpa using hc)
/-- A net's own values make its formula hold just where its wires are 1. -/
theorem means_all {l : List GateV} {ins : List Bool} {ws : List Int} (h : netOk 0 l = true) (hw : ∀ w ∈ ws, wireOk l.length w = true) :
    holdsF l.length (ofN l ws) (false :: evalN l [] ins) = ws.all (wireV (evalN l [] ins)) := by
  unfold holdsF
  rw [ofN_ok h hw, List.length_cons, evalN_len]
  have e1 : decide (((([] : List Bool).length + l.length + 1 : Nat) : Int) = (l.length : Int) + 1) = true := by simp
  rw [e1]
  simp only [beq_self_eq_true, Bool.true_and]
  unfold ofN
  have h1 : frmV (false :: evalN l [] ins) (clsN 0 l) = true := clsN_holds.2 fun j q hq => by
    have hh := evalN_at l [] ins j q h hq
    simp only [List.length_nil, Nat.zero_add] at hh
    rw [gateC_holds, Bool.and_eq_true]
    constructor
    · by_cases e : q.op = 1
      · simp [e, List.getD, hh.1 e]
      · simp [e]
    · by_cases e : q.op = 3
      · rw [show (evalN l [] ins).getD j false = (wireV (evalN l [] ins) q.a && wireV (evalN l [] ins) q.b) by simp [List.getD, hh.2 e]]
        simp
      · simp [e]
  have h2 : frmV (false :: evalN l [] ins) (clsN 0 l ++ ws.map fun w => [litW w]) = frmV (false :: evalN l [] ins) (ws.map fun w => [litW w]) := by
    unfold frmV at h1 ⊢
    rw [List.all_append, h1, Bool.true_and]
  rw [h2]
  unfold frmV
  rw [List.all_map]
  congr 1
  funext w
  simp [clV, litV_W (m := false :: evalN l [] ins) rfl]
/-- Another value of a gate that is no input does not. -/
theorem means_turn {l : List GateV} {ins : List Bool} {ws : List Int} (h : netOk 0 l = true) {k : Nat} {q : GateV} (hq : l[k]? = some q) (h2 : q.op ≠ 2) :
    holdsF l.length (ofN l ws) ((false :: evalN l [] ins).set (k + 1) (!(evalN l [] ins).getD k false)) = false := by
  have hk := (List.getElem?_eq_some_iff.1 hq).1
  obtain ⟨u, hu⟩ : ∃ u, u = (evalN l [] ins).set k (!(evalN l [] ins).getD k false) := ⟨_, rfl⟩
  rw [List.set_cons_succ, ← hu]
  have hul : k < (evalN l [] ins).length := by rw [evalN_len]; simpa using hk
  have huk : u.getD k false = !(evalN l [] ins).getD k false := by rw [hu]; simp [List.getD, List.getElem?_set, hul]
  have hlow : ∀ w : Int, 0 ≤ w → w < 2 * (k : Int) → wireV u w = wireV (evalN l [] ins) w := fun w h0 h1 => by
    unfold wireV
    have : k ≠ w.toNat / 2 := by omega
    rw [hu]; simp only [List.getD, List.getElem?_set_ne this]
  have hg := netOk_at h hq
  rw [Nat.zero_add] at hg
  have hno : frmV (false :: u) (gateC k q) = false := by
    rw [gateC_holds, huk]
    have hh := evalN_at l [] ins k q h hq
    simp only [List.length_nil, Nat.zero_add] at hh
    unfold gateOk at hg
    by_cases e : q.op = 1
    · have : (evalN l [] ins).getD k false = false := by simp [List.getD, hh.1 e]
      rw [this, e]; simp
    · rw [if_neg (by omega)] at hg
      by_cases e3 : q.op = 3
      · rw [if_pos e3] at hg
        simp only [decide_eq_true_eq] at hg
        have : (evalN l [] ins).getD k false = (wireV (evalN l [] ins) q.a && wireV (evalN l [] ins) q.b) := by simp [List.getD, hh.2 e3]
        rw [hlow _ hg.1 hg.2.2.1, hlow _ hg.2.1 hg.2.2.2, this, e3]
        cases wireV (evalN l [] ins) q.a <;> cases wireV (evalN l [] ins) q.b <;> rfl
      · rw [if_neg e3] at hg; cases hg
  unfold holdsF
  have : frmV (false :: u) (ofN l ws) = false := by
    cases h0 : frmV (false :: u) (ofN l ws) with
    | false => rfl
    | true =>
      unfold ofN frmV at h0
      rw [List.all_append, Bool.and_eq_true] at h0
      have := clsN_holds.1 h0.1 k q hq
      rw [hno] at this; cases this
  rw [this, Bool.and_false]
end Go.Proofs.YtdjnekcpeaadhaaGreat
namespace Go.Proofs.YtdjnekcpeaadhaaGreat
open Go.RowKit
set_option linter.unusedSimpArgs false
set_option linter.unusedVariables false
set_option maxRecDepth 100000

/-- 'append(s[:len(s):len(s)], x, ..)': the slice is full, so its cells move to a block of their own. -/
theorem wpList_grow_lit {P : Program} {ops : Array Oper} {rest : List Oper} {o : Oper} {a : Act} {wr : World} {Q : Exit → Act → World → Prop} (hgd : o.guard = none) (s x : Operand) (t e : TypeId)
    (ho : o.op = .call { callee := .builtin .append, args := #[s, x], argTypes := #[t, t] }) (z : Value) (size bytes : Nat) (ht : P.underlying t = some (.slice e))
    (hinfo : (P.info? e).map (fun i => (i.zero, i.size, i.bytes)) = some (some z, size, bytes)) (hzs : z.cells.size = size) (hsz : 0 < size)
    (ao : Option Addr) (n : Nat) (olds : List Value) (hs : a.eval s = .slice ao n n) (hnone : ao = none → n = 0) (hlo : olds.length = n * size) (holds : ∀ b, ao = some b → ∀ j u, olds[j]? = some u → wr.cell? (b.add j) = some u)
    (m c nb : Nat) (news : Array Value) (hx : a.eval x = .slice (some ⟨nb, 0, none⟩) m c) (hnb : nb = wr.heap.size) (hl : news.size = m * size) (h1 : news.all (·.oneCell') = true) (hm : 0 < m)
    (h63 : n + m ≤ maxLen) (hbytes : (n + m) * bytes ≤ 140737488355328)
    (h : ∀ v' w', w'.ownsRow wr.heap.size e size v' (n + m) (olds ++ news.toList) → Ext wr w' → wpList P ops Q rest (a.put o.dst v') w') :
    wpList P ops Q (o :: rest) a (wr.alloc (.cells news e)) := by
  obtain ⟨i0, hi, hz0, hz1, hz2⟩ := info_parts hinfo
  refine wpList_append_grows _ hgd s x t ho e i0 z size bytes ht hi hz0 hz1 hz2 hzs hsz ao n n olds hs (fun h0 => ⟨hnone h0, hnone h0⟩) hlo (fun b hb j u hu => ?_) ⟨nb, 0, none⟩ m c news.toList hx (by simpa using hl) (cell_alloc_list _ _ _ _ hnb)
    (fun u hu => (Array.all_eq_true_iff_forall_mem.1 h1) u (by simpa using hu)) (by omega) h63 hbytes ?_
  · exact ((Ext.refl wr).alloc _).cell (holds b hb j u hu)
  · intro v' w' hown' hg
    refine h v' w' (ownsRow_base hown' (by simp)) ?_
    exact Below.grown ((Ext.refl wr).alloc _) hg (by simp) (fun k hk => by simp at hk)
end Go.Proofs.YtdjnekcpeaadhaaGreat
namespace Go.Proofs.YtdjnekcpeaadhaaGreat
open Go.RowKit
set_option linter.unusedSimpArgs false
set_option linter.unusedVariables false
set_option maxRecDepth 100000

theorem own_nil (w : World) (base : Nat) (e : TypeId) (size : Nat) : w.ownsRow base e size (.slice none 0 0) 0 [] := ⟨by simp, .inl ⟨rfl, rfl⟩⟩
theorem ext_grown_nil {w w' : World} (h : w.grownBy w' (Value.slice none 0 0).ownBlock) : Ext w w' := Below.grown (Ext.refl w) h (Nat.le_refl _) (fun k hk => by simp [Value.ownBlock] at hk)
theorem below_grown {B base : Nat} {W w w' : World} {e : TypeId} {size n : Nat} {v : Value} {xs : List Value} (h : Below B W w) (hB : B ≤ base) (hs : base ≤ w.heap.size) (hown : w.ownsRow base e size v n xs) (hg : w.grownBy w' v.ownBlock) : Below B W w' :=
  Below.grown h hg (by omega) (fun k hk => by have := (hown.lt k hk).1; omega)
theorem slc_nil {w : World} {v : Value} {m size : Nat} {news : List Value} (h : SlC w v m news) (hl : news.length = m * size) (hsz : 0 < size) : (∃ ad c, v = .slice (some ad) m c ∧ ∀ j u, news[j]? = some u → w.cell? (ad.add j) = some u) ∨ (∃ c, v = .slice none 0 c ∧ m = 0 ∧ news = []) := by
  obtain ⟨a, cap, rfl, _, _, hc⟩ := h
  cases a with
  | some ad =>
    refine .inl ⟨ad, cap, rfl, fun j u hu => ?_⟩
    obtain ⟨b, o, e, hcell⟩ := hc j u hu
    obtain rfl := Option.some.inj e
    have e2 : (⟨b, o, none⟩ : Addr).add j = ⟨b, o + j, none⟩ := by
      unfold Addr.add; split
      · next h0 => have : j = 0 := by simpa using h0
                   rw [this]; rfl
      · rfl
    rw [e2]; exact hcell
  | none =>
    have hn : news = [] := by
      cases news with
      | nil => rfl
      | cons x l => obtain ⟨b, o, e, _⟩ := hc 0 x (by simp); cases e
    subst hn
    have hm : m = 0 := by
      rcases Nat.eq_zero_or_pos m with h0 | h0
      · exact h0
      · have := Nat.mul_pos h0 hsz; simp at hl; omega
    subst hm
    exact .inr ⟨cap, rfl, rfl, rfl⟩

section
variable {P : Program} (w : World)
theorem run_append_slc (base : Nat) (t ty e : TypeId) (z : Value) (size bytes : Nat) (ht : P.underlying t = some (.slice e)) (hinfo : (P.info? e).map (fun i => (i.zero, i.size, i.bytes)) = some (some z, size, bytes)) (hzs : z.cells.size = size) (hsz : 0 < size)
    (v : Value) (n : Nat) (xs : List Value) (hown : w.ownsRow base e size v n xs) (xv : Value) (m : Nat) (news : List Value) (hx : SlC w xv m news) (hl : news.length = m * size) (h1 : ∀ u ∈ news, u.oneCell' = true)
    (h63 : n + m ≤ maxLen) (hbytes : (n + m) * bytes ≤ 140737488355328) (hbase : base ≤ w.heap.size) :
    ∃ v' w', (Builtin.append_ #[t, t] ty #[v, xv]).run P w = .ok v' w' ∧ w'.ownsRow base e size v' (n + m) (xs ++ news) ∧ w.grownBy w' v.ownBlock ∧ (v'.ownBlock = v.ownBlock ∨ v'.ownBlock = some w.heap.size) := by
  obtain ⟨i, hi, hz, hsize, hby⟩ := info_parts hinfo
  rcases slc_nil hx hl hsz with ⟨ad, c, rfl, hcells⟩ | ⟨c, rfl, rfl, rfl⟩
  · obtain ⟨v', w', h, h2, h3, _, h5⟩ := run_append_own_at (P := P) w base t ty e i z size bytes ht hi hz hsize hby hzs hsz v n xs hown ad m c news hl hcells h1 h63 hbytes hbase
    exact ⟨v', w', h, h2, h3, h5⟩
  · refine ⟨v, w, ?_, by simpa using hown, World.grownBy.refl w _, .inl rfl⟩
    rcases hown.2 with ⟨rfl, rfl⟩ | ⟨g, cap, cur, rfl, _, _, hnc, _⟩
    · simp [Builtin.append_, run_underlying ht, sizeOf, typeInfo, hi, Builtin.lenOf, Builtin.firstCells]
    · simp [Builtin.append_, run_underlying ht, sizeOf, typeInfo, hi, Builtin.lenOf, Builtin.firstCells, hnc, storeCells]
theorem wp_append_slc {o : Oper} {a : Act} {K : Act → World → Prop} {Q : Exit → Act → World → Prop} (s x : Operand) (t : TypeId) (ho : o.op = .call { callee := .builtin .append, args := #[s, x], argTypes := #[t, t] })
    (base : Nat) (e : TypeId) (z : Value) (size bytes : Nat) (ht : P.underlying t = some (.slice e)) (hinfo : (P.info? e).map (fun i => (i.zero, i.size, i.bytes)) = some (some z, size, bytes)) (hzs : z.cells.size = size) (hsz : 0 < size)
    (v : Value) (n : Nat) (xs : List Value) (hs : a.eval s = v) (hown : w.ownsRow base e size v n xs) (xv : Value) (m : Nat) (news : List Value) (hxv : a.eval x = xv) (hx : SlC w xv m news) (hl : news.length = m * size) (h1 : ∀ u ∈ news, u.oneCell' = true)
    (h63 : n + m ≤ maxLen) (hbytes : (n + m) * bytes ≤ 140737488355328) (hbase : base ≤ w.heap.size)
    (h : ∀ v' w', w'.ownsRow base e size v' (n + m) (xs ++ news) → w.grownBy w' v.ownBlock → (v'.ownBlock = v.ownBlock ∨ v'.ownBlock = some w.heap.size) → K (a.put o.dst v') w') : o.wp P a w K Q := by
  obtain ⟨v', w', hrun, h2, h3, h4⟩ := run_append_slc (P := P) w base t o.type e z size bytes ht hinfo hzs hsz v n xs hown xv m news hx hl h1 h63 hbytes hbase
  unfold Oper.wp execOp
  simp only [ho, resolve, invoke, builtin, Sem.run_bind, Sem.run_pure, Result.andThen_ok, List.map_toArray, List.map_cons, List.map_nil, hs, hxv, hrun]
  exact h v' w' h2 h3 h4
/-- In a plain region. -/
theorem wpList_append_slc {ops : Array Oper} {rest : List Oper} {o : Oper} {a : Act} {Q : Exit → Act → World → Prop} (hgd : o.guard = none) (s x : Operand) (t : TypeId) (ho : o.op = .call { callee := .builtin .append, args := #[s, x], argTypes := #[t, t] })
    (base : Nat) (e : TypeId) (z : Value) (size bytes : Nat) (ht : P.underlying t = some (.slice e)) (hinfo : (P.info? e).map (fun i => (i.zero, i.size, i.bytes)) = some (some z, size, bytes)) (hzs : z.cells.size = size) (hsz : 0 < size)
    (v : Value) (n : Nat) (xs : List Value) (hs : a.eval s = v) (hown : w.ownsRow base e size v n xs) (xv : Value) (m : Nat) (news : List Value) (hxv : a.eval x = xv) (hx : SlC w xv m news) (hl : news.length = m * size) (h1 : ∀ u ∈ news, u.oneCell' = true)
    (h63 : n + m ≤ maxLen) (hbytes : (n + m) * bytes ≤ 140737488355328) (hbase : base ≤ w.heap.size)
    (h : ∀ v' w', w'.ownsRow base e size v' (n + m) (xs ++ news) → w.grownBy w' v.ownBlock → (v'.ownBlock = v.ownBlock ∨ v'.ownBlock = some w.heap.size) → wpList P ops Q rest (a.put o.dst v') w') : wpList P ops Q (o :: rest) a w :=
  wpList_plain hgd fun _ hK => wp_append_slc w s x t ho base e z size bytes ht hinfo hzs hsz v n xs hs hown xv m news hxv hx hl h1 h63 hbytes hbase fun v' w' h2 h3 h4 => hK _ _ (h v' w' h2 h3 h4)
/-- In a region that draws its order. -/
theorem step_append_slc {ops : Array Oper} {o : Oper} {a : Act} {K : Act → World → Prop} {Q : Exit → Act → World → Prop} {E : Prop} (hgd : o.guard = none) (s x : Operand) (t : TypeId) (ho : o.op = .call { callee := .builtin .append, args := #[s, x], argTypes := #[t, t] })
    (base : Nat) (e : TypeId) (z : Value) (size bytes : Nat) (ht : P.underlying t = some (.slice e)) (hinfo : (P.info? e).map (fun i => (i.zero, i.size, i.bytes)) = some (some z, size, bytes)) (hzs : z.cells.size = size) (hsz : 0 < size)
    (v : Value) (n : Nat) (xs : List Value) (hs : a.eval s = v) (hown : w.ownsRow base e size v n xs) (xv : Value) (m : Nat) (news : List Value) (hxv : a.eval x = xv) (hx : SlC w xv m news) (hl : news.length = m * size) (h1 : ∀ u ∈ news, u.oneCell' = true)
    (h63 : n + m ≤ maxLen) (hbytes : (n + m) * bytes ≤ 140737488355328) (hbase : base ≤ w.heap.size)
    (h : ∀ v' w', w'.ownsRow base e size v' (n + m) (xs ++ news) → w.grownBy w' v.ownBlock → (v'.ownBlock = v.ownBlock ∨ v'.ownBlock = some w.heap.size) → K (a.put o.dst v') w') :
    if Region.wanted o (yielded ops a.tmps) = true then Oper.wp P o a w K Q else E := by
  have hw : Region.wanted o (yielded ops a.tmps) = true := by simp [Region.wanted, hgd]
  rw [if_pos hw]
  exact wp_append_slc w s x t ho base e z size bytes ht hinfo hzs hsz v n xs hs hown xv m news hxv hx hl h1 h63 hbytes hbase h
end
end Go.Proofs.YtdjnekcpeaadhaaGreat
namespace Go.Proofs.YtdjnekcpeaadhaaGreat
open Go.RowKit
set_option linter.unusedSimpArgs false
set_option linter.unusedVariables false
set_option maxRecDepth 100000

/-- 'append(s, x...)' onto a full slice, x any slice that holds something: its cells move to a block of their own. -/
theorem wpList_grow_slc {P : Program} {ops : Array Oper} {rest : List Oper} {o : Oper} {a : Act} {wr : World} {Q : Exit → Act → World → Prop} (hgd : o.guard = none) (s x : Operand) (t e : TypeId)
    (ho : o.op = .call { callee := .builtin .append, args := #[s, x], argTypes := #[t, t] }) (z : Value) (size bytes : Nat) (ht : P.underlying t = some (.slice e))
    (hinfo : (P.info? e).map (fun i => (i.zero, i.size, i.bytes)) = some (some z, size, bytes)) (hzs : z.cells.size = size) (hsz : 0 < size)
    (ao : Option Addr) (n : Nat) (olds : List Value) (hs : a.eval s = .slice ao n n) (hnone : ao = none → n = 0) (hlo : olds.length = n * size) (holds : ∀ b, ao = some b → ∀ j u, olds[j]? = some u → wr.cell? (b.add j) = some u)
    (xv : Value) (m : Nat) (news : List Value) (hxv : a.eval x = xv) (hx : SlC wr xv m news) (hl : news.length = m * size) (h1 : ∀ u ∈ news, u.oneCell' = true) (hm : 0 < m)
    (h63 : n + m ≤ maxLen) (hbytes : (n + m) * bytes ≤ 140737488355328)
    (h : ∀ v' w', w'.ownsRow wr.heap.size e size v' (n + m) (olds ++ news) → Ext wr w' → wpList P ops Q rest (a.put o.dst v') w') :
    wpList P ops Q (o :: rest) a wr := by
  obtain ⟨i0, hi, hz0, hz1, hz2⟩ := info_parts hinfo
  rcases slc_nil hx hl hsz with ⟨ad, c, rfl, hcells⟩ | ⟨c, rfl, rfl, rfl⟩
  · refine wpList_append_grows _ hgd s x t ho e i0 z size bytes ht hi hz0 hz1 hz2 hzs hsz ao n n olds hs (fun h0 => ⟨hnone h0, hnone h0⟩) hlo (fun b hb j u hu => holds b hb j u hu) ad m c news hxv hl hcells h1 (by omega) h63 hbytes ?_
    intro v' w' hown' hg
    exact h v' w' (ownsRow_base hown' (by simp)) (Below.grown (Ext.refl wr) hg (by simp) (fun k hk => by simp at hk))
  · omega
end Go.Proofs.YtdjnekcpeaadhaaGreat
namespace Go.Proofs.YtdjnekcpeaadhaaGreat
open Go.RowKit
set_option linter.unusedSimpArgs false
set_option linter.unusedVariables false
set_option maxRecDepth 100000

/-- All blocks but those of S stay as they are. -/
structure Kb (S : List Nat) (w w' : World) : Prop where
  os : w'.os = w.os
  tape : w'.tape = w.tape
  output : w'.output = w.output
  size : w.heap.size ≤ w'.heap.size
  block : ∀ k, k < w.heap.size → k ∉ S → w'.heap[k]? = w.heap[k]?
theorem Kb.of_ext {S : List Nat} {w w' : World} (h : Ext w w') : Kb S w w' := ⟨h.os, h.tape, h.output, h.size, fun k hk _ => Below.block h k hk⟩
theorem Kb.refl (S : List Nat) (w : World) : Kb S w w := Kb.of_ext (Ext.refl w)
theorem Kb.trans {S : List Nat} {a b c : World} (h : Kb S a b) (k : Kb S b c) : Kb S a c := ⟨k.os.trans h.os, k.tape.trans h.tape, k.output.trans h.output, Nat.le_trans h.size k.size, fun i hi h1 => (k.block i (Nat.lt_of_lt_of_le hi h.size) h1).trans (h.block i hi h1)⟩
theorem Kb.mono {S T : List Nat} {a b : World} (h : Kb S a b) (hs : ∀ k ∈ S, k ∈ T) : Kb T a b := ⟨h.os, h.tape, h.output, h.size, fun i hi h1 => h.block i hi (fun e => h1 (hs i e))⟩
/-- A new block may be written: it is none of the old ones. -/
theorem Kb.trans_new {S T : List Nat} {a b c : World} (h : Kb S a b) (k : Kb T b c) (hT : ∀ i ∈ T, i ∈ S ∨ a.heap.size ≤ i) : Kb S a c :=
  ⟨k.os.trans h.os, k.tape.trans h.tape, k.output.trans h.output, Nat.le_trans h.size k.size, fun i hi h1 => (k.block i (Nat.lt_of_lt_of_le hi h.size) (fun e => (hT i e).elim h1 (fun q => absurd hi (Nat.not_lt.2 q)))).trans (h.block i hi h1)⟩
theorem Kb.set {S : List Nat} (w : World) (b j : Nat) (hb : b ∈ S) (u : Value) : Kb S w (w.setCell ⟨b, j, none⟩ u) :=
  ⟨rfl, rfl, rfl, by simp, fun k _ h1 => Below.heap_setCell _ _ _ _ (fun (e : k = b) => h1 (by rw [e]; exact hb))⟩
theorem Kb.ext {S : List Nat} {W w w' : World} (h : Kb S w w') (hx : Ext W w) (hS : ∀ k ∈ S, W.heap.size ≤ k) : Ext W w' :=
  Below.trans hx ⟨h.os, h.tape, h.output, h.size, fun k hk => h.block k (Nat.lt_of_lt_of_le hk hx.size) (fun e => absurd hk (Nat.not_lt.2 (hS k e)))⟩
theorem Kb.below {S : List Nat} {B : Nat} {W w w' : World} (h : Kb S w w') (hx : Below B W w) (hB : B ≤ W.heap.size) (hS : ∀ k ∈ S, B ≤ k) : Below B W w' :=
  Below.trans hx ⟨h.os, h.tape, h.output, h.size, fun k hk => h.block k (Nat.lt_of_lt_of_le hk (Nat.le_trans hB hx.size)) (fun e => absurd hk (Nat.not_lt.2 (hS k e)))⟩
theorem Kb.cell {S : List Nat} {w w' : World} (h : Kb S w w') {b o : Nat} {u : Value} (hb : b ∉ S) (hc : w.cell? ⟨b, o, none⟩ = some u) : w'.cell? ⟨b, o, none⟩ = some u := by
  have hl := World.block_lt_of_cell? w _ hc
  rw [← hc]; unfold World.cell?; simp only [h.block b hl hb]
theorem Kb.frozen {S : List Nat} {w w' : World} (h : Kb S w w') {b o : Nat} (hl : b < w.heap.size) (hb : b ∉ S) : w'.frozen? ⟨b, o, none⟩ = w.frozen? ⟨b, o, none⟩ := by
  unfold World.frozen?; simp only [h.block b hl hb]
theorem Kb.row {S : List Nat} {w w' : World} (h : Kb S w w') {base : Nat} {e : TypeId} {size : Nat} {v : Value} {n : Nat} {xs : List Value} (ho : w.ownsRow base e size v n xs) (hS : ∀ g ∈ S, v.ownBlock ≠ some g) : w'.ownsRow base e size v n xs := by
  refine ⟨ho.1, ho.2.imp id ?_⟩
  rintro ⟨g, cap, cur, rfl, h1, h2, r⟩
  exact ⟨g, cap, cur, rfl, h1, by rw [h.block g (Array.getElem?_eq_some_iff.1 h2).1 (fun e => hS g e rfl)]; exact h2, r⟩
theorem Kb.heap {S : List Nat} {w w' : World} (h : Kb S w w') {X : Nat} {o : Obj} (hX : X ∉ S) (hw : w.heap[X]? = some o) : w'.heap[X]? = some o := by
  rw [h.block X (Array.getElem?_eq_some_iff.1 hw).1 hX]; exact hw
/-- What an append leaves: only its own row's block. -/
theorem Kb.grown {S : List Nat} {w w' : World} {r : Option Nat} (h : w.grownBy w' r) (hS : ∀ g, r = some g → g ∈ S) : Kb S w w' :=
  ⟨h.os, h.tape, h.output, h.size, fun k hk hs => h.block k hk (fun e => hs (hS k e.symm))⟩
end Go.Proofs.YtdjnekcpeaadhaaGreat
namespace Go.Proofs.YtdjnekcpeaadhaaGreat
open Go.RowKit
set_option linter.unusedSimpArgs false
set_option linter.unusedVariables false
set_option maxRecDepth 100000

theorem splice_take {α : Type} (L : List α) (off : Nat) (cs : List α) (n : Nat) (h : off + cs.length ≤ n) (hn : n ≤ L.length) : (splice L off cs).take n = splice (L.take n) off cs := by
  unfold splice
  rw [List.take_append, List.take_append, List.take_take, List.length_take, Nat.min_eq_left (by omega : off ≤ L.length), List.take_of_length_le (by omega : cs.length ≤ n - off)]
  rw [Nat.min_eq_right (by omega : off ≤ n), List.take_take, Nat.min_eq_left (by omega : off ≤ n), List.drop_take, show n - (off + cs.length) = n - off - cs.length by omega]
theorem kb_setRow (w : World) (g : Nat) (cs : Array Value) : Kb [g] w (w.setRow g cs) :=
  ⟨rfl, rfl, rfl, by simp [World.setRow], fun k hk h1 => setRow_other w g k cs (fun e => h1 (by rw [e]; simp))⟩
section
variable {P : Program} {w : World}
theorem wp_copy_row {o : Oper} {a : Act} {K : Act → World → Prop} {Q : Exit → Act → World → Prop} (d s : Operand) (dT sT : TypeId)
    (ho : o.op = .call { callee := .builtin .copy, args := #[d, s], argTypes := #[dT, sT] }) (elem : TypeId) (hu : P.underlying dT = some (.slice elem)) (hsz : (P.info? elem).map (·.size) = some 1)
    (base n : Nat) (e : TypeId) (v : Value) (xs : List Value) (hown : w.ownsRow base e 1 v n xs)
    (dp sp : Option Addr) (dLen dCap sLen sCap : Nat) (hd : a.eval d = .slice dp dLen dCap) (hs : a.eval s = .slice sp sLen sCap) (off : Nat) (cs : List Value) (hcs : cs.length = sLen) (hle : sLen ≤ dLen) (hfit : off + sLen ≤ n) (h1 : ∀ u ∈ cs, u.oneCell' = true)
    (hpos : 0 < sLen → (∃ g, v.ownBlock = some g ∧ dp = some ⟨g, off, none⟩) ∧ ∃ ad, sp = some ad ∧ ∀ j u, cs[j]? = some u → w.cell? (ad.add j) = some u)
    (h : ∀ w', w'.ownsRow base e 1 v n (splice xs off cs) → Kb v.ownBlock.toList w w' → K (a.put o.dst (goInt sLen)) w') : o.wp P a w K Q := by
  by_cases h0 : sLen = 0
  · subst h0
    obtain rfl : cs = [] := List.eq_nil_of_length_eq_zero hcs
    have hrun := run_copy_none (P := P) w dT sT o.type elem dp sp dLen dCap 0 sCap hu hsz (Nat.zero_min _)
    unfold Oper.wp
    simp [execOp, ho, resolve, invoke, builtin, hd, hs, hrun, Result.andThen]
    refine h w ?_ (Kb.refl _ _)
    unfold splice
    simpa using hown
  · obtain ⟨⟨g, hg, rfl⟩, ad, rfl, hsrc⟩ := hpos (by omega)
    obtain ⟨e1, e2⟩ := hown
    rcases e2 with ⟨rfl, _⟩ | ⟨g', cap, cur, rfl, hb, hh, hn, hc, hz, ht⟩
    · cases hg
    · simp only [Value.ownBlock, Option.some.injEq] at hg
      subst hg
      have hz' : cur.size = cap := by rw [hz, Nat.mul_one]
      have hrun := run_copy_row (P := P) w dT sT o.type elem g' off dLen dCap ad sLen sCap cur e cs hu hsz hh (by rw [hcs]; exact (Nat.min_eq_left hle).symm) hsrc (by omega) h1
      unfold Oper.wp
      simp [execOp, ho, resolve, invoke, builtin, hd, hs, hrun, Result.andThen, hcs]
      rw [Nat.mul_one] at e1 ht
      refine h _ ⟨by rw [Nat.mul_one, length_splice _ _ _ (by omega)]; exact e1, .inr ⟨g', cap, (splice cur.toList off cs).toArray, rfl, hb, ?_, hn, hc, ?_, ?_⟩⟩ (kb_setRow w g' _)
      · have := setRow_heap w g' cur (cur.toList.take off ++ (cs ++ cur.toList.drop (off + cs.length))).toArray e (0, 0) hh
        simpa [splice, hcs] using this
      · simp only [List.size_toArray]
        rw [length_splice _ _ _ (by simp; omega)]; simpa using hz
      · rw [Nat.mul_one, ← ht]
        exact splice_take _ _ _ _ (by omega) (by simp; omega)
theorem wpList_copy_row' {ops : Array Oper} {rest : List Oper} {o : Oper} {a : Act} {Q : Exit → Act → World → Prop} (hgd : o.guard = none) (d s : Operand) (dT sT : TypeId)
    (ho : o.op = .call { callee := .builtin .copy, args := #[d, s], argTypes := #[dT, sT] }) (elem : TypeId) (hu : P.underlying dT = some (.slice elem)) (hsz : (P.info? elem).map (·.size) = some 1)
    (base n : Nat) (e : TypeId) (v : Value) (xs : List Value) (hown : w.ownsRow base e 1 v n xs)
    (dp sp : Option Addr) (dLen dCap sLen sCap : Nat) (hd : a.eval d = .slice dp dLen dCap) (hs : a.eval s = .slice sp sLen sCap) (off : Nat) (cs : List Value) (hcs : cs.length = sLen) (hle : sLen ≤ dLen) (hfit : off + sLen ≤ n) (h1 : ∀ u ∈ cs, u.oneCell' = true)
    (hpos : 0 < sLen → (∃ g, v.ownBlock = some g ∧ dp = some ⟨g, off, none⟩) ∧ ∃ ad, sp = some ad ∧ ∀ j u, cs[j]? = some u → w.cell? (ad.add j) = some u)
    (h : ∀ w', w'.ownsRow base e 1 v n (splice xs off cs) → Kb v.ownBlock.toList w w' → wpList P ops Q rest (a.put o.dst (goInt sLen)) w') : wpList P ops Q (o :: rest) a w :=
  wpList_plain hgd fun _ hK => wp_copy_row d s dT sT ho elem hu hsz base n e v xs hown dp sp dLen dCap sLen sCap hd hs off cs hcs hle hfit h1 hpos fun w' h2 h3 => hK _ _ (h w' h2 h3)
/-- 's[k:]'. -/
theorem run_cut_l (T : TypeId) (ht : P.underlying T = some (.slice (P.elem T))) (hs : ∀ w, (sizeOf (P.elem T)).run P w = .ok 1 w) (b n cap k : Nat) (hk : k ≤ n) :
    ∃ p, (k < cap → p = ⟨b, k, none⟩) ∧ ∀ w, (Instr.sliceAt T (.slice (some ⟨b, 0, none⟩) n cap) (some (.int .i64 (k : Int))) none none).run P w = .ok (.slice (some p) (n - k) (cap - k)) w := by
  refine ⟨if cap = k then ⟨b, 0, none⟩ else ⟨b, k, none⟩, fun h => if_neg (by omega), fun w => ?_⟩
  rw [run_sliceAt_slice w T _ _ _ _ ht, run_slice_l w T _ n cap ht .i64 k (by omega) (by omega), hs]
  by_cases h : cap = k <;> simp [Result.andThen, sliced, h, Addr.add] <;> exact Eq.symm
/-- 's[k:m]'. -/
theorem run_cut_lh (T : TypeId) (ht : P.underlying T = some (.slice (P.elem T))) (hs : ∀ w, (sizeOf (P.elem T)).run P w = .ok 1 w) (b n cap k m : Nat) (hk : k ≤ m) (hm : m ≤ cap) :
    ∃ p, (k < cap → p = ⟨b, k, none⟩) ∧ ∀ w, (Instr.sliceAt T (.slice (some ⟨b, 0, none⟩) n cap) (some (.int .i64 (k : Int))) (some (.int .i64 (m : Int))) none).run P w = .ok (.slice (some p) (m - k) (cap - k)) w := by
  refine ⟨if cap = k then ⟨b, 0, none⟩ else ⟨b, k, none⟩, fun h => if_neg (by omega), fun w => ?_⟩
  rw [run_sliceAt_slice w T _ _ _ _ ht, run_slice_lh w T _ n cap ht .i64 .i64 k m (by omega) (by omega) (by omega), hs]
  by_cases h : cap = k <;> simp [Result.andThen, sliced, h, Addr.add] <;> exact Eq.symm
/-- 's[:0]', of nil too. -/
theorem run_cut_0 (T : TypeId) (ht : P.underlying T = some (.slice (P.elem T))) (hs : ∀ w, (sizeOf (P.elem T)).run P w = .ok 1 w) (a : Option Addr) (n cap : Nat) (w : World) :
    (Instr.sliceAt T (.slice a n cap) none (some (.int .i64 0)) none).run P w = .ok (.slice a 0 cap) w := by
  rw [run_sliceAt_slice w T _ _ _ _ ht, run_slice_h w T _ n cap ht .i64 0 (by omega) (by omega), hs]
  cases a <;> simp [Result.andThen, sliced, Addr.add]
/-- 's[:m]'. -/
theorem run_cut_h (T : TypeId) (ht : P.underlying T = some (.slice (P.elem T))) (hs : ∀ w, (sizeOf (P.elem T)).run P w = .ok 1 w) (b n cap m : Nat) (hm : m ≤ cap) (w : World) :
    (Instr.sliceAt T (.slice (some ⟨b, 0, none⟩) n cap) none (some (.int .i64 (m : Int))) none).run P w = .ok (.slice (some ⟨b, 0, none⟩) m cap) w := by
  rw [run_sliceAt_slice w T _ _ _ _ ht, run_slice_h w T _ n cap ht .i64 m (by omega) (by omega), hs]
  simp [Result.andThen, sliced, Addr.add]
end
/-- A piece of an owned row. -/
theorem own_piece {w : World} {base n : Nat} {e : TypeId} {b cap : Nat} {xs : List Value} (h : w.ownsRow base e 1 (.slice (some ⟨b, 0, none⟩) n cap) n xs) (k m : Nat) (p : Addr) (hp : k < m → p = ⟨b, k, none⟩) (hk : k ≤ m) (hm : m ≤ n) :
    ∀ j u, ((xs.drop k).take (m - k))[j]? = some u → w.cell? (p.add j) = some u := by
  intro j u hu
  rw [List.getElem?_take] at hu
  split at hu
  · rename_i hj
    rw [hp (by omega)]
    rw [List.getElem?_drop] at hu
    have := (h.cells (g := b) rfl (k + j) u hu)
    have e : ∀ x y : Nat, (⟨b, x, none⟩ : Addr).add y = ⟨b, x + y, none⟩ := fun x y => by by_cases h0 : y = 0 <;> simp [Addr.add, h0]
    rw [e, Nat.zero_add] at this
    rw [e]; exact this
  · cases hu
/-- Where a slice's cells lie, if it has any. -/
theorem slc_src {w : World} {a : Option Addr} {n cap : Nat} {cs : List Value} (h : SlC w (.slice a n cap) n cs) (hn : 0 < cs.length) : ∃ ad, a = some ad ∧ ∀ j u, cs[j]? = some u → w.cell? (ad.add j) = some u := by
  obtain ⟨a', cap', e1, h1, h2, hc⟩ := h
  simp only [Value.slice.injEq] at e1
  obtain ⟨rfl, -, rfl⟩ := e1
  obtain ⟨b, o, rfl, -⟩ := hc 0 cs[0] (List.getElem?_eq_getElem hn)
  refine ⟨⟨b, o, none⟩, rfl, fun j u hu => ?_⟩
  obtain ⟨b', o', e2, hcell⟩ := hc j u hu
  simp only [Option.some.injEq, Addr.mk.injEq] at e2
  obtain ⟨rfl, rfl, -⟩ := e2
  rw [show (⟨b, o, none⟩ : Addr).add j = ⟨b, o + j, none⟩ by by_cases h0 : j = 0 <;> simp [Addr.add, h0]]
  exact hcell
/-- An owned row, cut to nothing. -/
theorem own_cut0 {w : World} {base n tn cap : Nat} {e : TypeId} {a : Option Addr} {xs : List Value} (h : w.ownsRow base e 1 (.slice a tn cap) n xs) : w.ownsRow base e 1 (.slice a 0 cap) 0 [] := by
  refine ⟨rfl, ?_⟩
  rcases h.2 with ⟨e1, _⟩ | ⟨g, cap', cur, e1, hb, hh, hn, hc, hs, _⟩
  · simp only [Value.slice.injEq] at e1
    obtain ⟨rfl, rfl, rfl⟩ := e1
    exact .inl ⟨rfl, rfl⟩
  · simp only [Value.slice.injEq] at e1
    obtain ⟨rfl, rfl, rfl⟩ := e1
    exact .inr ⟨g, cap, cur, rfl, hb, hh, Nat.zero_le _, hc, hs, by simp⟩
/-- A row as it is made. -/
theorem own_made {w : World} {base K : Nat} {e : TypeId} (b : Nat) (z : Value) (hb : base ≤ b) (hK : K ≤ maxLen) (h : w.heap[b]? = some (.cells (madeCells #[z] K) e (0, 0))) : w.ownsRow base e 1 (.slice (some ⟨b, 0, none⟩) K K) K (List.replicate K z) :=
  ⟨by simp, .inr ⟨b, K, _, rfl, hb, h, Nat.le_refl _, hK, by rw [size_madeCells]; omega, by rw [toList_madeCells_one]; simp⟩⟩
theorem splice_map {α β : Type} (f : α → β) (L : List α) (off : Nat) (cs : List α) : splice (L.map f) off (cs.map f) = (splice L off cs).map f := by
  simp [splice, List.map_take, List.map_drop]
theorem splice_all {α : Type} (L cs : List α) (h : cs.length = L.length) : splice L 0 cs = cs := by
  simp [splice, h]
/-- A row of noughts, with one list laid at its head and another behind O more. -/
theorem splice_two {α : Type} (z : α) (K O : Nat) (X Y : List α) (h : X.length + O + Y.length ≤ K) :
    splice (splice (List.replicate K z) 0 X) (X.length + O) Y = X ++ (List.replicate O z ++ (Y ++ List.replicate (K - (X.length + O + Y.length)) z)) := by
  have e1 : splice (List.replicate K z) 0 X = X ++ List.replicate (K - X.length) z := by simp [splice]
  have e2 : List.replicate (K - X.length) z = List.replicate O z ++ (List.replicate Y.length z ++ List.replicate (K - (X.length + O + Y.length)) z) := by
    rw [List.replicate_append_replicate, List.replicate_append_replicate]
    congr 1; omega
  rw [e1, e2]
  unfold splice
  rw [← List.append_assoc X, List.take_left' (by simp), List.append_assoc X]
  rw [← List.append_assoc (X ++ _), List.drop_left' (by simp [Nat.add_assoc])]
end Go.Proofs.YtdjnekcpeaadhaaGreat
namespace Go.Proofs.YtdjnekcpeaadhaaGreat
open Go.RowKit
set_option linter.unusedSimpArgs false
set_option linter.unusedVariables false
set_option maxRecDepth 100000

/-- A store into an owned row of one-cell elements. -/
theorem own_set1 {w : World} {base g n cap : Nat} {e : TypeId} {xs : List Value} (h : w.ownsRow base e 1 (.slice (some ⟨g, 0, none⟩) n cap) n xs) (j : Nat) (hj : j < n) (u : Value) : (w.setCell ⟨g, j, none⟩ u).ownsRow base e 1 (.slice (some ⟨g, 0, none⟩) n cap) n (xs.set j u) := by
  obtain ⟨h1, h2⟩ := h
  refine ⟨by simpa using h1, ?_⟩
  rcases h2 with ⟨h2, _⟩ | ⟨g', cap', cur, hv, hg, hh, hn, hc, hs, ht⟩
  · cases h2
  · simp only [Value.slice.injEq, Option.some.injEq, Addr.mk.injEq] at hv
    obtain ⟨⟨rfl, -, -⟩, -, rfl⟩ := hv
    refine .inr ⟨g, cap, cur.setIfInBounds j u, rfl, hg, heap_setCell_same w g j cur e u hh, hn, hc, by simpa using hs, ?_⟩
    rw [← ht]
    simp only [Array.toList_setIfInBounds, Nat.mul_one]
    rw [List.take_set]
theorem own_cell1 {w : World} {base g n cap : Nat} {e : TypeId} {xs : List Value} (h : w.ownsRow base e 1 (.slice (some ⟨g, 0, none⟩) n cap) n xs) (j : Nat) (u : Value) (hu : xs[j]? = some u) : w.cell? ⟨g, j, none⟩ = some u ∧ w.frozen? ⟨g, j, none⟩ = false := by
  obtain ⟨h1, h2⟩ := h
  rcases h2 with ⟨h2, _⟩ | ⟨g', cap', cur, hv, hg, hh, hn, hc, hs, ht⟩
  · cases h2
  · simp only [Value.slice.injEq, Option.some.injEq, Addr.mk.injEq] at hv
    obtain ⟨⟨rfl, -, -⟩, -, rfl⟩ := hv
    refine ⟨?_, frozen_of_row _ _ j _ _ hh⟩
    rw [cell_of_row w g j cur e (0, 0) hh]
    rw [← ht, List.getElem?_take] at hu
    split at hu
    · simpa using hu
    · cases hu
/-- Bytes as a string. -/
theorem run_str {P : Program} {w : World} {v : Value} {l : List Int} (src e : TypeId) (hs : P.underlying src = some (.slice e)) (he : P.underlying e = some (.int .u8)) (h : SlC w v l.length (l.map (.int .u8))) (dst : TypeId) (hd : P.underlying dst = some .string) :
    (convert src dst v).run P w = .ok (.string (strOfNums l)) w := by
  obtain ⟨a, cap, rfl, _, _, hc⟩ := h
  cases a with
  | none =>
    have hl : l = [] := by
      cases l with
      | nil => rfl
      | cons x l => obtain ⟨b, o, e, _⟩ := hc 0 (.int .u8 x) (by simp); cases e
    subst hl
    exact run_convert_bytes_nil w src e hs he _ _ dst hd
  | some a =>
    cases l with
    | nil =>
      show (convert src dst (.slice (some a) 0 cap)).run P w = _
      rw [run_convert_bytes_string w src dst e _ 0 cap hs he hd]
      simp [Conv.bytesToString, strOfNums, loadCells]
      rfl
    | cons x l =>
      obtain ⟨b, o, e1, _⟩ := hc 0 (.int .u8 x) (by simp)
      obtain rfl := Option.some.inj e1
      refine run_convert_bytes_arg w src e hs he b o _ cap (x :: l) rfl (fun i hi => ?_) dst hd
      obtain ⟨b', o', e2, hcell⟩ := hc i (.int .u8 ((x :: l).getD i 0)) (by rw [List.getElem?_map, List.getElem?_eq_getElem hi]; simp [List.getD, List.getElem?_eq_getElem hi])
      simp only [Option.some.injEq, Addr.mk.injEq] at e2
      obtain ⟨rfl, rfl, -⟩ := e2
      exact hcell
end Go.Proofs.YtdjnekcpeaadhaaGreat
namespace Go.Proofs.YtdjnekcpeaadhaaGreat
open Go.RowKit
set_option linter.unusedSimpArgs false
set_option linter.unusedVariables false
set_option maxRecDepth 100000

/-- A number that 64 bits hold. -/
def I64 (n : Int) : Prop := -9223372036854775808 ≤ n ∧ n < 9223372036854775808
theorem infoInt : (Tryz.prog.info? 3).map (fun i => (i.zero, i.size, i.bytes)) = some (some (.int .i64 0), 1, 8) := by kernel_rfl

abbrev u8s (l : List Int) : List Value := l.map (.int .u8)
abbrev i64s (l : List Int) : List Value := l.map (.int .i64)

theorem nat64 {m cap : Nat} (h : m ≤ cap) (hc : cap ≤ maxLen) : wrap64 (m : Int) = m := by rw [← IntWalk.i64_left]; exact IntWalk.i64_in _ (by unfold maxLen at hc; omega)
theorem byte_in {x : Int} (hx : 0 ≤ x ∧ x < 256) : IntKind.i64.wrap x = x := IntWalk.i64_in _ (by omega)

theorem SlC.fresh (w : World) (arr : Array Value) (e : TypeId) (n nb : Nat) (hn : nb = w.heap.size) (hm : n ≤ maxLen) : SlC (w.alloc (.cells arr e)) (.slice (some ⟨nb, 0, none⟩) n n) n arr.toList := by
  subst hn
  refine ⟨some ⟨w.heap.size, 0, none⟩, n, rfl, Nat.le_refl _, hm, fun j u hu => ⟨w.heap.size, 0, rfl, ?_⟩⟩
  rw [Nat.zero_add, cell_of_row _ _ j arr e (0, 0) (heap_alloc_last w _)]
  simpa using hu
theorem own_fresh (w : World) (arr : Array Value) (e : TypeId) (base n nb : Nat) (hn : nb = w.heap.size) (hb : base ≤ nb) (hs : arr.size = n) (hm : n ≤ maxLen) : (w.alloc (.cells arr e)).ownsRow base e 1 (.slice (some ⟨nb, 0, none⟩) n n) n arr.toList := by
  refine ⟨by simp [hs], .inr ⟨nb, n, arr, rfl, hb, heap_alloc_at _ _ _ hn, Nat.le_refl _, hm, by simp [hs], ?_⟩⟩
  rw [List.take_of_length_le (by simp [hs])]
theorem own_slice {w : World} {base n : Nat} {e : TypeId} {u : Value} {cs : List Value} (h : w.ownsRow base e 1 u n cs) : ∃ a n c, u = .slice a n c := by
  rcases h.2 with ⟨rfl, _⟩ | ⟨g, cap', cur, rfl, hb, _⟩
  · exact ⟨_, _, _, rfl⟩
  · exact ⟨_, _, _, rfl⟩
theorem one_i64s (l : List Int) : ∀ u ∈ i64s l, u.oneCell' = true := by
  intro u hu
  obtain ⟨x, _, rfl⟩ := List.mem_map.1 hu
  rfl

theorem fresh_drew (w : World) (arr : Array Value) (e : TypeId) (n nb : Nat) (hn : nb = w.heap.size) (hm : n ≤ maxLen) : SlC (w.alloc (.cells arr e)).drew (.slice (some ⟨nb, 0, none⟩) n n) n arr.toList := (SlC.fresh w arr e n nb hn hm).ext (Ext.refl _).drew

theorem own_slice3 {w : World} {base n : Nat} {e : TypeId} {u : Value} {cs : List Value} {k : Nat} (h : w.ownsRow base e k u n cs) : ∃ a m c, u = .slice a m c := by
  rcases h.2 with ⟨rfl, _⟩ | ⟨g, cap', cur, rfl, hb, _⟩
  · exact ⟨_, _, _, rfl⟩
  · exact ⟨_, _, _, rfl⟩
theorem ext_set {w w' : World} (h : Ext w w') {X : Nat} (hX : w.heap.size ≤ X) (j : Nat) (v : Value) : Ext w (w'.setCell ⟨X, j, none⟩ v) := h.setCell hX v
/-- A block of one program, all of whose cells may be stored to. -/
structure BoxV (C : Nat) (vs : List Value) (w : World) : Prop where
  cells : ∀ j u, vs[j]? = some u → w.cell? ⟨C, j, none⟩ = some u
  fz : ∀ j, w.frozen? ⟨C, j, none⟩ = false
  lt : C < w.heap.size
theorem BoxV.ext {C : Nat} {vs : List Value} {w w' : World} (h : BoxV C vs w) (hx : Ext w w') : BoxV C vs w' :=
  ⟨fun j u hu => hx.cell (h.cells j u hu), fun j => by rw [hx.frozens C j h.lt]; exact h.fz j, Nat.lt_of_lt_of_le h.lt hx.size⟩
theorem BoxV.set {C : Nat} {vs : List Value} {w : World} (h : BoxV C vs w) (j : Nat) (u : Value) (hj : j < vs.length) : BoxV C (vs.set j u) (w.setCell ⟨C, j, none⟩ u) := by
  refine ⟨fun k x hx => ?_, fun k => by simp; exact h.fz k, by simp; exact h.lt⟩
  by_cases hk : j = k
  · subst hk
    rw [List.getElem?_set_self hj] at hx
    rw [← Option.some.inj hx]
    exact World.cell?_setCell_same _ _ _ (h.cells j _ (List.getElem?_eq_getElem hj))
  · rw [List.getElem?_set_ne hk] at hx
    rw [World.cell?_setCell_other _ _ _ _ (by intro e; simp only [Addr.mk.injEq] at e; omega)]
    exact h.cells k x hx
theorem BoxV.put {C : Nat} {vs : List Value} {w : World} (h : BoxV C vs w) (j : Nat) (u : Value) : BoxV C (vs.set j u) (w.setCell ⟨C, j, none⟩ u) := by
  by_cases hj : j < vs.length
  · exact h.set j u hj
  · rw [List.set_eq_of_length_le (by omega)]
    refine ⟨fun k x hx => ?_, fun k => by simp; exact h.fz k, by simp; exact h.lt⟩
    have hk := (List.getElem?_eq_some_iff.1 hx).1
    rw [World.cell?_setCell_other _ _ _ _ (by intro e; simp only [Addr.mk.injEq] at e; omega)]
    exact h.cells k x hx
theorem BoxV.drew {C : Nat} {vs : List Value} {w : World} (h : BoxV C vs w) : BoxV C vs w.drew := h.ext (Ext.refl w).drew
theorem BoxV.drewN {C : Nat} {vs : List Value} {w : World} (h : BoxV C vs w) (n : Nat) : BoxV C vs (w.drewN n) := h.ext ((Ext.refl w).drewN n)
theorem BoxV.cast {C : Nat} {vs vs' : List Value} {w : World} (h : BoxV C vs w) (e : vs = vs') : BoxV C vs' w := e ▸ h
theorem drew_block {w : World} {X : Nat} {o : Obj} (h : w.heap[X]? = some o) : w.drew.heap[X]? = some o := h
theorem drewN_block {w : World} {X : Nat} {o : Obj} (h : w.heap[X]? = some o) (n : Nat) : (w.drewN n).heap[X]? = some o := h
theorem ext_block {w w' : World} (h : Ext w w') {X : Nat} {o : Obj} (hX : w.heap[X]? = some o) : w'.heap[X]? = some o := by
  rw [Below.block h X (Array.getElem?_eq_some_iff.1 hX).1]; exact hX
theorem set_block {w : World} {X C : Nat} {o : Obj} (hC : X ≠ C) (j : Nat) (u : Value) (hX : w.heap[X]? = some o) : (w.setCell ⟨C, j, none⟩ u).heap[X]? = some o := by
  rw [Below.heap_setCell _ _ _ _ hC]; exact hX
theorem row_below {B M : Nat} {w w' : World} {e : TypeId} {size : Nat} {v : Value} {n : Nat} {xs : List Value} (h : w.ownsRow B e size v n xs) (hM : ∀ g, v.ownBlock = some g → g < M) (hx : Below M w w') : w'.ownsRow B e size v n xs := by
  refine ⟨h.1, h.2.imp id ?_⟩
  rintro ⟨g, cap, cur, rfl, h1, h2, r⟩
  exact ⟨g, cap, cur, rfl, h1, by rw [Below.block hx g (hM g rfl)]; exact h2, r⟩
theorem BoxV.below {C M : Nat} {vs : List Value} {w w' : World} (h : BoxV C vs w) (hx : Below M w w') (hC : C < M) : BoxV C vs w' :=
  ⟨fun j u hu => (Below.cell (p := ⟨C, j, none⟩) hx hC).trans (h.cells j u hu), fun j => (Below.frozen (p := ⟨C, j, none⟩) hx hC).trans (h.fz j), Nat.lt_of_lt_of_le h.lt hx.size⟩
theorem results_cell_tmp {P : Program} {fn : Func} {p u : Tmp} {ty : TypeId} (h : fn.results = #[.cell p ty, .tmp u]) (tmps : Array Value) (w : World) (g : Nat) (t : TypeId) (cs : Array Value) (fr : Nat × Nat) (d : TypeDesc)
    (hp : tmps.getD p undef = .pointer (some ⟨g, 0, none⟩)) (hg : w.heap[g]? = some (.cells cs t fr))
    (hu : P.underlying ty = some d) (hd : (match d with | .struct _ | .array _ _ => true | _ => false) = true) (hi : (P.info? ty).map (·.size) = some cs.size) :
    (results fn tmps).run P w = .ok (.tuple #[.agg cs, tmps.getD u undef]) w := by
  have hp' : tmps[p]?.getD undef = .pointer (some ⟨g, 0, none⟩) := by simpa using hp
  simp [results, h, hp', asAddr, run_loadVar_row w g t ty cs fr d hg hu hd hi]
theorem ret_row2 {P : Program} {fn : Func} {R : Ending → World → Prop} {a : Act} {w : World} {p u : Tmp} {ty : TypeId} (h : fn.results = #[.cell p ty, .tmp u]) (n : Nat) (t : TypeId) (cs : Array Value) (d : TypeDesc)
    (hp : a.tmps.getD p undef = .pointer (some ⟨n, 0, none⟩)) (hg : w.heap[n]? = some (.cells cs t (0, 0)))
    (hu : P.underlying ty = some d) (hd : (match d with | .struct _ | .array _ _ => true | _ => false) = true) (hi : (P.info? ty).map (·.size) = some cs.size) (hdf : a.defers = [])
    (hR : R (.returned (.tuple #[.agg cs, a.tmps.getD u undef])) w) : bodyPost P fn R .ret a w :=
  bodyPost_ret (results_cell_tmp h _ _ _ _ _ _ _ hp hg hu hd hi) hdf hR
theorem row_setRow {B X : Nat} {w : World} {e : TypeId} {size : Nat} {v : Value} {n : Nat} {xs : List Value} (h : w.ownsRow B e size v n xs) (hX : X < B) (cs : Array Value) : (w.setRow X cs).ownsRow B e size v n xs := by
  refine ⟨h.1, h.2.imp id ?_⟩
  rintro ⟨g, cap, cur, rfl, h1, h2, r⟩
  exact ⟨g, cap, cur, rfl, h1, by rw [setRow_other _ _ _ _ (show g ≠ X by omega)]; exact h2, r⟩
theorem BoxV.other {C : Nat} {vs : List Value} {w : World} (h : BoxV C vs w) {g : Nat} (hg : g ≠ C) (j : Nat) (u : Value) : BoxV C vs (w.setCell ⟨g, j, none⟩ u) := by
  refine ⟨fun k x hx => ?_, fun k => by simp; exact h.fz k, by simp; exact h.lt⟩
  rw [World.cell?_setCell_other _ _ _ _ (by intro e; simp only [Addr.mk.injEq] at e; exact hg e.1)]
  exact h.cells k x hx
theorem BoxV.of_row {g : Nat} {cs : Array Value} {e : TypeId} {w : World} (h : w.heap[g]? = some (.cells cs e (0, 0))) : BoxV g cs.toList w :=
  ⟨fun j u hu => by rw [cell_of_row _ _ j _ _ (0, 0) h]; simpa using hu, fun j => frozen_of_row _ _ j _ _ h, (Array.getElem?_eq_some_iff.1 h).1⟩
theorem BoxV.kb {C : Nat} {vs : List Value} {S : List Nat} {w w' : World} (h : BoxV C vs w) (hk : Kb S w w') (hC : C ∉ S) : BoxV C vs w' :=
  ⟨fun j u hu => hk.cell hC (h.cells j u hu), fun j => (hk.frozen h.lt hC).trans (h.fz j), Nat.lt_of_lt_of_le h.lt hk.size⟩
theorem own_shorter {w : World} {base g n cap : Nat} {e : TypeId} {xs : List Value} (h : w.ownsRow base e 1 (.slice (some ⟨g, 0, none⟩) n cap) n xs) (m : Nat) (hm : m ≤ n) : w.ownsRow base e 1 (.slice (some ⟨g, 0, none⟩) m cap) m (xs.take m) := by
  obtain ⟨h1, h2⟩ := h
  rcases h2 with ⟨h2, _⟩ | ⟨g', cap', cur, hv, hg, hh, hn, hc, hs, ht⟩
  · cases h2
  · simp only [Value.slice.injEq, Option.some.injEq, Addr.mk.injEq] at hv
    obtain ⟨⟨rfl, -, -⟩, -, rfl⟩ := hv
    refine ⟨by rw [List.length_take, h1]; omega, .inr ⟨g, cap, cur, rfl, hg, hh, by omega, hc, hs, ?_⟩⟩
    rw [← ht, List.take_take, Nat.mul_one, Nat.mul_one, Nat.min_eq_left hm]
theorem sizeInt (w : World) : (sizeOf (Tryz.prog.elem 29)).run Tryz.prog w = .ok 1 w := by kernel_rfl
theorem sizeInt1 : (Tryz.prog.info? 3).map (·.size) = some 1 := by kernel_rfl
/-- A row that an append made is a slice of that many. -/
theorem own_n {w : World} {B n s : Nat} {e : TypeId} {v : Value} {xs : List Value} (h : w.ownsRow B e s v n xs) : ∃ a cap, v = .slice a n cap := by
  rcases h.2 with ⟨e1, e2⟩ | ⟨g, cap, cur, e1, -⟩
  · subst e2; exact ⟨_, _, e1⟩
  · exact ⟨_, _, e1⟩
theorem SlC.lt {w : World} {v : Value} {n : Nat} {cs : List Value} (h : SlC w v n cs) (hne : cs ≠ []) : ∀ b, v.ownBlock = some b → b < w.heap.size := by
  obtain ⟨a, cap, rfl, h1, h2, hc⟩ := h
  intro b hb
  obtain ⟨x, hx⟩ : ∃ x, cs[0]? = some x := ⟨_, List.getElem?_eq_getElem (List.length_pos_iff.2 hne)⟩
  obtain ⟨b', o, rfl, hcell⟩ := hc 0 x hx
  simp [Value.ownBlock] at hb
  subst hb
  exact World.block_lt_of_cell? w _ hcell
theorem i64s_take {r : List Int} : (i64s (r ++ [-71])).take r.length = i64s r := by
  rw [← List.map_take, List.take_left' rfl]
theorem wrap64_id {x : Int} (h1 : -9223372036854775808 ≤ x) (h2 : x < 9223372036854775808) : wrap64 x = x := IntWalk.wrap64_in x (by omega)
theorem cellsInt : Tryz.prog.cellsOf 3 = 1 := by kernel_rfl
theorem cellsInts : Tryz.prog.cellsOf 29 = 1 := by kernel_rfl
theorem lit_I64 {a : Int} (h : (Lit.int .i64 a).wf = true) : I64 a := wf_I64 h
theorem infoInts : (Tryz.prog.info? 29).map (fun i => (i.zero, i.size, i.bytes)) = some (some (.slice none 0 0), 1, 24) := by kernel_rfl

theorem own_room1 {w : World} {base g n cap : Nat} {e : TypeId} {xs : List Value} (h : w.ownsRow base e 1 (.slice (some ⟨g, 0, none⟩) n cap) n xs) (j : Nat) (hj : j < n) : ∃ y, w.cell? ⟨g, j, none⟩ = some y ∧ w.frozen? ⟨g, j, none⟩ = false := by
  obtain ⟨h1, h2⟩ := h
  rcases h2 with ⟨h2, _⟩ | ⟨g', cap', cur, hv, hg, hh, hn, hc, hs, ht⟩
  · cases h2
  · simp only [Value.slice.injEq, Option.some.injEq, Addr.mk.injEq] at hv
    obtain ⟨⟨rfl, -, -⟩, -, rfl⟩ := hv
    refine ⟨cur[j]'(by omega), ?_, frozen_of_row _ _ _ _ _ hh⟩
    rw [cell_of_row w g _ cur e (0, 0) hh, Array.getElem?_eq_getElem]
theorem I64.one {x : Int} (h : I64 x) : ∀ y ∈ [x], I64 y := fun y hy => by rw [List.mem_singleton.1 hy]; exact h
theorem SlC.nil (w : World) : SlC w (.slice none 0 0) 0 [] := ⟨none, 0, rfl, Nat.le_refl _, Nat.zero_le _, fun j u hu => by simp at hu⟩
end Go.Proofs.YtdjnekcpeaadhaaGreat
namespace Go.Proofs.YtdjnekcpeaadhaaGreat
open Go.RowKit Go.ChangeShapes Go.WideShapes Go.ChangeAt
set_option linter.unusedSimpArgs false
set_option linter.unusedVariables false
set_option maxRecDepth 100000

/-- Rows of numbers in memory: the slice of slices v holds the slices vs, and they the numbers rs. -/
structure RowsIn (w : World) (v : Value) (vs : List Value) (rs : List (List Int)) : Prop where
  top : SlC w v rs.length vs
  len : vs.length = rs.length
  row : ∀ (j : Nat) (x : Value) (r : List Int), vs[j]? = some x → rs[j]? = some r → SlC w x r.length (i64s r)
theorem RowsIn.ext {w w' : World} {v : Value} {vs : List Value} {rs : List (List Int)} (h : RowsIn w v vs rs) (hx : Ext w w') : RowsIn w' v vs rs :=
  ⟨h.top.ext hx, h.len, fun j x r h1 h2 => (h.row j x r h1 h2).ext hx⟩
theorem RowsIn.at {w : World} {v : Value} {vs : List Value} {rs : List (List Int)} (h : RowsIn w v vs rs) {j : Nat} (hj : j < rs.length) : ∃ x r, vs[j]? = some x ∧ rs[j]? = some r ∧ SlC w x r.length (i64s r) := by
  have h1 := List.getElem?_eq_getElem (show j < vs.length by rw [h.len]; exact hj)
  have h2 := List.getElem?_eq_getElem hj
  exact ⟨_, _, h1, h2, h.row j _ _ h1 h2⟩
section
variable {H : Type} {enc : TypeId × Value → H} {W : World} {base : Nat} {sp : Nat → Bool} {held : Bool}
end
end Go.Proofs.YtdjnekcpeaadhaaGreat
namespace Go.Proofs.YtdjnekcpeaadhaaGreat
open Go.RowKit Go.ChangeShapes Go.WideShapes Go.ChangeAt

theorem bytesInt : Tryz.prog.bytesOf 3 = 8 := by kernel_rfl
theorem weights_all {H : Type} {P : Program} {e : TypeId} : ∀ {l : List (DataW H)} {d : DataW H} {n : Nat}, d ∈ l → n ∈ d.weights P e → n ∈ DataW.weightsAll P e l
  | a :: l, d, n, hd, hn => by
    simp only [DataW.weightsAll, List.mem_append]
    rcases List.mem_cons.1 hd with h | h
    · subst h; exact .inl hn
    · exact .inr (weights_all h hn)
theorem open_numbers_d {P : Program} {H : Type} {enc : TypeId × Value → H} {w : World} {base : Nat} {sp : Nat → Bool} {held : Bool} {t e : TypeId} {k : IntKind} {fuel : Nat} {v : Value} {x : DataW H × List MemPlace} (ht : P.underlying t = some (.slice e)) (he : P.underlying e = some (.int k)) (hc : P.cellsOf e = 1)
    (h : DataW.trod enc P w base sp held fuel t [v] = some x) : ∃ l : List Int, SlC w v l.length (l.map (.int k)) ∧ (∀ n ∈ l, (Lit.int k n).wf = true) ∧ (l = [] ∨ ∃ sp, x.1 = .slice (lits k l) sp) := by
  rcases open_ints ht he hc h with ⟨e1, rfl⟩ | ⟨a, len, cap, zs, e1, hb, hl, hcm, hlen, rfl, hcell, hwf⟩
  · simp only [List.cons.injEq, and_true] at e1
    subst e1
    exact ⟨[], ⟨none, 0, rfl, Nat.le_refl _, Nat.zero_le _, fun j u hu => by simp at hu⟩, (fun n hn => by cases hn), .inl rfl⟩
  · simp only [List.cons.injEq, and_true] at e1
    subst e1
    have hz : len ≤ zs.length := by rw [hlen]; split <;> omega
    have e2 : (zs.take len).length = len := by rw [List.length_take]; omega
    refine ⟨zs.take len, ?_, fun n hn => hwf n (List.mem_of_mem_take hn), .inr ⟨_, rfl⟩⟩
    rw [e2]
    refine slc_at hl hcm fun j u hu => ?_
    have hj : j < len := by have := (List.getElem?_eq_some_iff.1 hu).1; rw [List.length_map, e2] at this; exact this
    rw [hcell j (by omega)]
    rw [List.getElem?_map, List.getElem?_take_of_lt hj, List.getElem?_eq_getElem (by omega)] at hu
    rw [← Option.some.inj hu]
    simp [List.getD, List.getElem?_eq_getElem (show j < zs.length by omega)]
section
variable {H : Type} {enc : TypeId × Value → H} {W : World} {base : Nat} {sp : Nat → Bool} {held : Bool}
end
end Go.Proofs.YtdjnekcpeaadhaaGreat
namespace Go.Proofs.YtdjnekcpeaadhaaGreat
open Go.RowKit Go.ChangeShapes Go.WideShapes Go.ChangeAt
set_option linter.unusedSimpArgs false
set_option linter.unusedVariables false
set_option maxRecDepth 100000

def gateCells (l : List GateV) : List Value := l.flatMap fun q => [.int .i64 q.op, .int .i64 q.a, .int .i64 q.b]
theorem gateCells_len : ∀ (l : List GateV), (gateCells l).length = l.length * 3
  | [] => rfl
  | q :: l => by
    have := gateCells_len l
    unfold gateCells at this ⊢
    rw [List.flatMap_cons, List.length_append, this, List.length_cons]; simp; omega
theorem gateCells_at : ∀ (l : List GateV) (i : Nat) (q : GateV), l[i]? = some q → (gateCells l)[i * 3]? = some (.int .i64 q.op) ∧ (gateCells l)[i * 3 + 1]? = some (.int .i64 q.a) ∧ (gateCells l)[i * 3 + 2]? = some (.int .i64 q.b)
  | x :: l, 0, q, h => by simp at h; subst h; exact ⟨rfl, rfl, rfl⟩
  | x :: l, i + 1, q, h => by
    simp only [List.getElem?_cons_succ] at h
    obtain ⟨h1, h2, h3⟩ := gateCells_at l i q h
    have e : gateCells (x :: l) = [.int .i64 x.op, .int .i64 x.a, .int .i64 x.b] ++ gateCells l := by unfold gateCells; rw [List.flatMap_cons]
    rw [e]
    refine ⟨?_, ?_, ?_⟩
    · rw [List.getElem?_append_right (by simp; omega)]; simpa [show (i + 1) * 3 - 3 = i * 3 by omega] using h1
    · rw [List.getElem?_append_right (by simp; omega)]; simpa [show (i + 1) * 3 + 1 - 3 = i * 3 + 1 by omega] using h2
    · rw [List.getElem?_append_right (by simp; omega)]; simpa [show (i + 1) * 3 + 2 - 3 = i * 3 + 2 by omega] using h3
theorem gateCells_get {l : List GateV} {j : Nat} {u : Value} (h : (gateCells l)[j]? = some u) : ∃ i q, l[i]? = some q ∧ (j = i * 3 ∧ u = .int .i64 q.op ∨ j = i * 3 + 1 ∧ u = .int .i64 q.a ∨ j = i * 3 + 2 ∧ u = .int .i64 q.b) := by
  have hj := (List.getElem?_eq_some_iff.1 h).1
  rw [gateCells_len] at hj
  have hi : j / 3 < l.length := by omega
  have hq := List.getElem?_eq_getElem hi
  obtain ⟨h0, h1, h2⟩ := gateCells_at l (j / 3) _ hq
  refine ⟨j / 3, _, hq, ?_⟩
  rcases (by omega : j = j / 3 * 3 ∨ j = j / 3 * 3 + 1 ∨ j = j / 3 * 3 + 2) with e | e | e
  · rw [← e, h] at h0; exact .inl ⟨e, Option.some.inj h0⟩
  · rw [← e, h] at h1; exact .inr (.inl ⟨e, Option.some.inj h1⟩)
  · rw [← e, h] at h2; exact .inr (.inr ⟨e, Option.some.inj h2⟩)
/-- Gates in memory. -/
def GatesIn (w : World) (v : Value) (l : List GateV) : Prop := SlC w v l.length (gateCells l)
def GatesWf (l : List GateV) : Prop := ∀ q ∈ l, I64 q.op ∧ I64 q.a ∧ I64 q.b
def bools (l : List Bool) : List Value := l.map .bool
@[simp] theorem bools_len (l : List Bool) : (bools l).length = l.length := by simp [bools]
theorem bools_at (l : List Bool) (i : Nat) (x : Bool) (h : l[i]? = some x) : (bools l)[i]? = some (.bool x) := by simp [bools, h]
theorem cellsGate : Tryz.prog.cellsOf 62 = 3 := by kernel_rfl
theorem cellsGates : Tryz.prog.cellsOf 26 = 1 := by kernel_rfl
theorem cellsNet : Tryz.prog.cellsOf 28 = 1 := by kernel_rfl
theorem cellsBool : Tryz.prog.cellsOf 4 = 1 := by kernel_rfl
section
variable {H : Type} {enc : TypeId × Value → H} {W : World} {base : Nat} {sp : Nat → Bool} {held : Bool}
theorem open_gates {fuel : Nat} {v : Value} {x : DataW H × List MemPlace} (h : DataW.trod enc Tryz.prog W base sp held fuel 26 [v] = some x) :
    ∃ l : List GateV, GatesIn W v l ∧ GatesWf l := by
  rcases Deep.open_slice Tryz.underlying26 h with ⟨e1, rfl⟩ | ⟨a, len, cap, m, n, D, Pl, e1, hb, hl, hcm, hm, rfl, hel⟩
  · simp only [List.cons.injEq, and_true] at e1
    subst e1
    exact ⟨[], ⟨none, 0, rfl, Nat.le_refl _, Nat.zero_le _, fun j u hu => by simp [gateCells] at hu⟩, fun n hn => by cases hn⟩
  · simp only [List.cons.injEq, and_true] at e1
    subst e1
    have hlm : len ≤ m := by rw [hm]; split <;> omega
    have each : ∀ i, i < len → ∃ q : GateV, W.cell? (a.add (i * 3)) = some (.int .i64 q.op) ∧ W.cell? (a.add (i * 3 + 1)) = some (.int .i64 q.a) ∧ W.cell? (a.add (i * 3 + 2)) = some (.int .i64 q.b) ∧ I64 q.op ∧ I64 q.a ∧ I64 q.b := by
      intro i hi
      obtain ⟨cs', h1, h2⟩ := hel i (by omega)
      rw [cellsGate] at h1
      obtain ⟨_, hlen, hcell⟩ := World.cells?_some h1
      obtain ⟨k, _, hf⟩ := trod_fields Tryz.underlying62 h2
      match cs', hlen with
      | [v0, v1, v2], _ =>
        obtain ⟨y0, f0⟩ := hf 0 0 3 v0 rfl cellsInt rfl
        obtain ⟨y1, f1⟩ := hf 1 1 3 v1 rfl cellsInt rfl
        obtain ⟨y2, f2⟩ := hf 2 2 3 v2 rfl cellsInt rfl
        obtain ⟨n0, e0, _, w0⟩ := DataW.trod_int Tryz.underlying3 f0
        obtain ⟨n1, e1, _, w1⟩ := DataW.trod_int Tryz.underlying3 f1
        obtain ⟨n2, e2, _, w2⟩ := DataW.trod_int Tryz.underlying3 f2
        simp only [List.cons.injEq, and_true] at e0 e1 e2
        subst e0
        subst e1
        subst e2
        have c0 := hcell 0 (by omega)
        have c1 := hcell 1 (by omega)
        have c2 := hcell 2 (by omega)
        rw [Deep.add_add] at c0 c1 c2
        exact ⟨⟨n0, n1, n2⟩, c0, c1, c2, lit_I64 w0, lit_I64 w1, lit_I64 w2⟩
    have hch : ∃ f : Nat → GateV, ∀ i, i < len → W.cell? (a.add (i * 3)) = some (.int .i64 (f i).op) ∧ W.cell? (a.add (i * 3 + 1)) = some (.int .i64 (f i).a) ∧ W.cell? (a.add (i * 3 + 2)) = some (.int .i64 (f i).b) ∧ I64 (f i).op ∧ I64 (f i).a ∧ I64 (f i).b := by
      classical
      exact ⟨fun i => if hi : i < len then Classical.choose (each i hi) else ⟨0, 0, 0⟩, fun i hi => by simp only [dif_pos hi]; exact Classical.choose_spec (each i hi)⟩
    obtain ⟨f, hf⟩ := hch
    have e2 : ((List.range len).map f).length = len := by simp
    refine ⟨(List.range len).map f, ?_, fun q hq => ?_⟩
    · unfold GatesIn
      rw [e2]
      refine slc_at hl hcm fun j u hu => ?_
      obtain ⟨i, q, hq, hh⟩ := gateCells_get hu
      have hi : i < len := by have := (List.getElem?_eq_some_iff.1 hq).1; simpa using this
      have hqf : q = f i := by
        rw [List.getElem?_map, List.getElem?_range hi] at hq
        exact (Option.some.inj hq).symm
      obtain ⟨h0, h1, h2, _⟩ := hf i hi
      subst hqf
      rcases hh with ⟨rfl, rfl⟩ | ⟨rfl, rfl⟩ | ⟨rfl, rfl⟩
      · exact h0
      · exact h1
      · exact h2
    · obtain ⟨i, hi, rfl⟩ := List.mem_map.1 hq
      exact (hf i (List.mem_range.1 hi)).2.2.2
/-- An argument that is a net. -/
theorem open_net {r : Reach} {base0 : Nat} {v : Value} {d : DataW H} {p : List MemPlace} (hval : Value.okWide Tryz.prog W r base0 28 v) (h : DataW.Trod enc Tryz.prog W base sp held 28 v d p) :
    ∃ (l : List GateV) (gv : Value), v = .agg #[gv] ∧ GatesIn W gv l ∧ GatesWf l := by
  obtain ⟨cs, rfl⟩ := okWide_agg Tryz.underlying28 hval
  obtain ⟨fuel, h⟩ := h
  obtain ⟨n, hl, hf⟩ := trod_fields Tryz.underlying28 h
  rw [cellsNet] at hl
  obtain ⟨l⟩ := cs
  change l.length = 1 at hl
  match l, hl with
  | [c0], _ =>
    obtain ⟨y0, f0⟩ := hf 0 0 26 c0 rfl cellsGates rfl
    obtain ⟨l, h1, h2⟩ := open_gates f0
    exact ⟨l, c0, rfl, h1, h2⟩
theorem trod_parts {t : TypeId} {fs : Array Field} {fuel : Nat} {cs : List Value} {x : DataW H × List MemPlace} (ht : Tryz.prog.underlying t = some (.struct fs))
    (h : DataW.trod enc Tryz.prog W base sp held fuel t cs = some x) : ∃ n parts, x.1 = .agg parts ∧ cs.length = Tryz.prog.cellsOf t ∧ ∀ (i o : Nat) (ty : TypeId) (v : Value), (fs[i]?).map (fun f => (f.type, f.offset)) = some (ty, o) → Tryz.prog.cellsOf ty = 1 → cs[o]? = some v → ∃ y, DataW.trod enc Tryz.prog W base sp held n ty [v] = some y ∧ parts[i]? = some y.1 := by
  obtain ⟨xs, n, rfl, rfl, hl, hxl, hf⟩ := DataW.trod_struct ht h
  refine ⟨n, _, rfl, hl, fun i o ty v hfs hc hv => ?_⟩
  obtain ⟨f, hfi, e⟩ := Option.map_eq_some_iff.1 hfs
  simp only [Prod.mk.injEq] at e
  obtain ⟨rfl, rfl⟩ := e
  have := hf i f hfi
  have hi : i < xs.length := by rw [hxl]; exact (Array.getElem?_eq_some_iff.1 hfi).1
  obtain ⟨ho, hov⟩ := List.getElem?_eq_some_iff.1 hv
  rw [hc, List.drop_eq_getElem_cons ho, List.take_succ_cons, List.take_zero, hov, List.getElem?_eq_getElem hi] at this
  exact ⟨_, this, by rw [List.getElem?_map, List.getElem?_eq_getElem hi]; rfl⟩
/-- An argument that is a row of bools. -/
theorem open_bools {r : Reach} {base0 : Nat} {v : Value} {d : DataW H} {p : List MemPlace} (hval : Value.okWide Tryz.prog W r base0 36 v) (h : DataW.Trod enc Tryz.prog W base sp held 36 v d p) :
    ∃ l : List Bool, SlC W v l.length (bools l) := by
  obtain ⟨va, vm, vc, rfl⟩ := okWide_slice Tryz.underlying36 hval
  obtain ⟨fuel, h⟩ := h
  rcases Deep.open_slice1 Tryz.underlying36 cellsBool h with ⟨e1, -⟩ | ⟨a, len, cap, m, n, V, D, Pl, e1, hb, hl, hcm, hm, -, hel⟩
  · change [Value.slice va vm vc] = _ at e1
    simp only [List.cons.injEq, and_true] at e1
    rw [e1]
    exact ⟨[], ⟨none, 0, rfl, Nat.le_refl _, Nat.zero_le _, fun j u hu => by simp [bools] at hu⟩⟩
  · change [Value.slice va vm vc] = _ at e1
    simp only [List.cons.injEq, and_true] at e1
    rw [e1]
    have hlm : len ≤ m := by rw [hm]; split <;> omega
    have each : ∀ i, i < len → ∃ b : Bool, V i = .bool b := fun i hi => by
      obtain ⟨_, h2⟩ := hel i (by omega)
      obtain ⟨b, e, _⟩ := DataW.trod_bool Tryz.underlying4 h2
      simp only [List.cons.injEq, and_true] at e
      exact ⟨b, e⟩
    have hch : ∃ f : Nat → Bool, ∀ i, i < len → V i = .bool (f i) := by
      classical
      exact ⟨fun i => if hi : i < len then Classical.choose (each i hi) else false, fun i hi => by simp only [dif_pos hi]; exact Classical.choose_spec (each i hi)⟩
    obtain ⟨f, hf⟩ := hch
    refine ⟨(List.range len).map f, ?_⟩
    rw [show ((List.range len).map f).length = len by simp]
    refine slc_at hl hcm fun j u hu => ?_
    have hj : j < len := by have := (List.getElem?_eq_some_iff.1 hu).1; simpa [bools] using this
    rw [(hel j (by omega)).1]
    unfold bools at hu
    rw [List.getElem?_map, List.getElem?_map, List.getElem?_range hj] at hu
    simp only [Option.map_some] at hu
    rw [hf j hj]
    exact hu
end
end Go.Proofs.YtdjnekcpeaadhaaGreat
namespace Go.Proofs.YtdjnekcpeaadhaaGreat
open Go.RowKit
set_option linter.unusedSimpArgs false
set_option linter.unusedVariables false
set_option maxRecDepth 100000

theorem and_one (x : Int) : bits .and .i64 x 1 = x % 2 := by
  have h0 : bits .and .i64 x 1 = IntKind.i64.wrap ((BitVec.ofInt 64 x &&& BitVec.ofInt 64 1).toNat : Int) := rfl
  rw [h0]
  have h : (BitVec.ofInt 64 x &&& BitVec.ofInt 64 1).toNat = (x % 2).toNat := by
    rw [BitVec.toNat_and]
    have h1 : (BitVec.ofInt 64 1).toNat = 1 := by decide
    rw [h1, Nat.and_one_is_mod, BitVec.toNat_ofInt]
    omega
  rw [h]
  have h2 : 0 ≤ x % 2 ∧ x % 2 < 2 := by omega
  simp [IntKind.wrap, IntKind.bits, IntKind.signed]
  omega
end Go.Proofs.YtdjnekcpeaadhaaGreat
namespace Go.Proofs.YtdjnekcpeaadhaaGreat
open Go.RowKit
set_option linter.unusedSimpArgs false
set_option linter.unusedVariables false
set_option maxRecDepth 100000

theorem clOk_step {x y : Int} {l : List Int} {j : Nat} (h : l[j]? = some y) : clOk x (l.drop j) = (litOk x y && clOk x (l.drop (j + 1))) := by
  obtain ⟨hl, e⟩ := List.getElem?_eq_some_iff.1 h
  rw [List.drop_eq_getElem_cons hl, e]
  simp [clOk]
theorem frmOk_step {x : Int} {r : List Int} {l : List (List Int)} {j : Nat} (h : l[j]? = some r) : frmOk x (l.drop j) = (clOk x r && frmOk x (l.drop (j + 1))) := by
  obtain ⟨hl, e⟩ := List.getElem?_eq_some_iff.1 h
  rw [List.drop_eq_getElem_cons hl, e]
  simp [frmOk]
end Go.Proofs.YtdjnekcpeaadhaaGreat
namespace Go.Proofs.YtdjnekcpeaadhaaGreat
open Go.RowKit
set_option linter.unusedSimpArgs false
set_option linter.unusedVariables false
set_option maxRecDepth 100000

/-- Are clauses too much? -/
def bigG : Nat → List (List Int) → Bool
  | k, [] => decide (6000 < k)
  | k, r :: rs => if k ≤ 6000 then bigG (k + 1 + r.length) rs else true
def bigF (x : Int) (rs : List (List Int)) : Bool := bigG 0 rs || decide (3000 < x)
theorem bigG_step {k : Nat} {rs : List (List Int)} {j : Nat} {r : List Int} (hr : rs[j]? = some r) (hk : k ≤ 6000) : bigG k (rs.drop j) = bigG (k + 1 + r.length) (rs.drop (j + 1)) := by
  obtain ⟨hl, e⟩ := List.getElem?_eq_some_iff.1 hr
  rw [List.drop_eq_getElem_cons hl, e, bigG, if_pos hk]
theorem bigG_over {k : Nat} {rs : List (List Int)} {j : Nat} (hj : j < rs.length) (hk : ¬ k ≤ 6000) : bigG k (rs.drop j) = true := by
  rw [List.drop_eq_getElem_cons hj, bigG, if_neg hk]
theorem bigG_small : ∀ (rs : List (List Int)) (k : Nat), bigG k rs = false → k + szF rs ≤ 6000
  | [], k, h => by rw [bigG] at h; simp at h; simp [szF]; omega
  | r :: rs, k, h => by
    rw [bigG] at h
    split at h
    · have := bigG_small rs _ h
      simp only [szF]
      omega
    · cases h
theorem clV_step {m : List Bool} {r : List Int} {k : Nat} {y : Int} (h : r[k]? = some y) : clV m (r.take (k + 1)) = (clV m (r.take k) || litV m y) := by
  rw [List.take_add_one, h, Option.toList_some]
  simp [clV]
theorem frmV_step {m : List Bool} {r : List Int} {l : List (List Int)} {j : Nat} (h : l[j]? = some r) : frmV m (l.drop j) = (clV m r && frmV m (l.drop (j + 1))) := by
  obtain ⟨hl, e⟩ := List.getElem?_eq_some_iff.1 h
  rw [List.drop_eq_getElem_cons hl, e]
  simp [frmV]
end Go.Proofs.YtdjnekcpeaadhaaGreat

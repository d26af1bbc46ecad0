/-
  Plain lemmas on the walk that all texts of this seat use: a region that draws its order whose first n operations are quiet in a class of worlds (calls that make memory among them) and whose rest stands in one forced order; the class of worlds that extend a world.
  No condition.
-/
import Derived.WalkKit
import Derived.WalkSpells
import Derived.WalkLawsBesides
import Derived.StillTailTactics
import Derived.Deep.QuietTactic
import Derived.BigQuiet
import Derived.Lib.Hide
import Derived.Laws.EntriesVeiled
import Derived.Deep.WholeRow
namespace Go.Proofs.Ytkjgghbdpmkmoaa
open Go.RowKit
set_option linter.unusedSimpArgs false
set_option linter.unusedVariables false
set_option maxRecDepth 100000

section
variable {P : Program} {ops : Array Oper} {md : Region.Mode} {C : World → Prop}

/-- Whatever order is picked among the first n operations, f of them still to come. -/
def HeadQ (P : Program) (md : Region.Mode) (ops : Array Oper) (C : World → Prop) (n : Nat) (L : Array Bool → Act → Prop) : Nat → Array Bool → Act → Prop
  | 0, listed, a => L listed a
  | f + 1, listed, a => Region.ready md ops listed ≠ [] ∧ ∀ i ∈ Region.ready md ops listed, i < n ∧ qOp P ops C i (HeadQ P md ops C n L f (listed.setIfInBounds i true)) a

theorem any_of_headQ {n g : Nat} {L : Array Bool → Act → Prop} {Q' : Exit → Act → World → Prop} (hL : ∀ listed a w, C w → L listed a → wpAny P md ops Q' g listed a w) :
    ∀ (f : Nat) (listed : Array Bool) (a : Act) (w : World), C w → HeadQ P md ops C n L f listed a → wpAny P md ops Q' (f + g) listed a w := by
  intro f
  induction f with
  | zero => intro listed a w hw h; rw [Nat.zero_add]; exact hL _ _ _ hw h
  | succ f ih =>
    intro listed a w hw h
    rw [show f + 1 + g = (f + g) + 1 from by omega]
    refine ⟨fun h0 => absurd h0 h.1, fun i hi => ?_⟩
    exact wpOp_of_qOp hw (fun a' w' hw' h' => ih _ a' w' hw' h') (h.2 i hi).2

theorem headQ_first {n i : Nat} {oi : Oper} {v : Value} {L : Array Bool → Act → Prop} (hi : ops[i]? = some oi) (hsel : ∀ (j : Nat) (o : Oper) cs b, ops[j]? = some o → o.op ≠ .select cs b)
    (hs : Region.sinkB md ops n = true) (hc : Region.chainB md ops n = true) (hn : n < ops.size) (hin : i < n)
    (hdone : ∀ listed a, L listed a → ∀ j ∈ Region.ready md ops listed, n ≤ j) :
    ∀ (f : Nat) (listed : Array Bool) (a : Act), HeadInv md ops n listed →
      (∀ j oj, ops[j]? = some oj → j ≠ i → listed.getD j true = false → (∀ e ∈ oj.after, Region.binds md e = true → e.on ≠ i) → oi.apart ops oj = true) →
      i ∈ Region.ready md ops listed → YieldsIn P ops C oi v a →
      HeadQ P md ops C n L f (listed.setIfInBounds i true) (a.put oi.dst v) → HeadQ P md ops C n L (f + 1) listed a := by
  intro f
  induction f with
  | zero =>
    intro listed a inv _ hr hy H
    refine ⟨fun h => (by rw [h] at hr; cases hr), fun j hj => ?_⟩
    have hun := (mem_ready.1 hr).1
    by_cases hjn : j < n
    · refine ⟨hjn, ?_⟩
      by_cases hji : j = i
      · subst hji; exact hy.qOp hi H
      · have := hdone _ _ H j (ready_mono hj hji)
        omega
    · exact absurd hj (tail_waits hs hc hn inv _ i rfl hin hun j (by omega))
  | succ f ih =>
    intro listed a inv hfree hr hy H
    refine ⟨fun h => (by rw [h] at hr; cases hr), fun j hj => ?_⟩
    have hun := (mem_ready.1 hr).1
    by_cases hjn : j < n
    · refine ⟨hjn, ?_⟩
      by_cases hji : j = i
      · subst hji; exact hy.qOp hi H
      · obtain ⟨hjun, oj, hoj, hall⟩ := mem_ready.1 hj
        have hnot : ∀ e ∈ oj.after, Region.binds md e = true → e.on ≠ i := fun e he hb heq => by
          have h3 := hall e he hb
          rw [heq, getD_both hun] at h3
          cases h3
        have h2 := qOp_put hoj (hfree j oj hoj hji hjun hnot) (fun cs b => hsel i oi cs b hi) (fun cs b => hsel j oj cs b hoj) hy (H.2 j (ready_mono hj hji)).2
        refine qOp_mono (fun a' h3 => ih (listed.setIfInBounds j true) a' (inv.set hj hjn) (fun k ok hk hki hku hno => hfree k ok hk hki ?_ hno) (ready_mono hr (Ne.symm hji)) h3.1 ?_) h2
        · by_cases hjk : j = k
          · subst hjk; exact hjun
          · rw [getD_set_ne true hjk] at hku; exact hku
        · rw [Array.setIfInBounds_comm _ _ hji]
          exact h3.2
    · exact absurd hj (tail_waits hs hc hn inv _ i rfl hin hun j (by omega))

theorem headQ_lex {n g : Nat} {Lq : Act → Prop} (hsel : Region.noSelect ops = true) (hs : Region.sinkB md ops n = true) (hc : Region.chainB md ops n = true) (hn : n < ops.size) :
    ∀ (l : List Oper) (k : Nat) (listed : Array Bool) (a : Act), (∀ j, j < l.length → l[j]? = ops[k + j]?) → k + l.length = n → HeadInv md ops n listed →
    Region.lexHead md ops g l.length k listed = true → wpQuiet P ops C Lq l a →
    HeadQ P md ops C n (fun listed' a' => Region.seqB md ops g n listed' = true ∧ Lq a') l.length listed a := by
  intro l
  induction l with
  | nil =>
    intro k listed a _ hk _ hB h
    obtain rfl : k = n := by simpa using hk
    exact ⟨by simpa [Region.lexHead] using hB, h⟩
  | cons o l ih =>
    intro k listed a hl hk inv hB h
    have h0 : ops[k]? = some o := by simpa using (hl 0 (by simp)).symm
    simp only [List.length_cons, Region.lexHead, Bool.and_eq_true] at hB
    have hkn : k < n := by simp only [List.length_cons] at hk; omega
    have hr : k ∈ Region.ready md ops listed := by simpa using hB.1.1
    have hst : qOp P ops C k (wpQuiet P ops C Lq l) a := by unfold qOp; simp only [h0]; exact h
    obtain ⟨v, hy, hK⟩ := yieldsIn_of_qOp h0 hst
    refine headQ_first h0 (Region.noSelect_spec hsel) hs hc hn hkn (fun listed' a' hL => seqB_ready hL.1) l.length listed a inv (Region.free_spec h0 hB.1.2) hr hy (ih (k + 1) _ _ (fun j hj => ?_) (by simp only [List.length_cons] at hk; omega) (inv.set hr hkn) hB.2 hK)
    have := hl (j + 1) (by simp; omega)
    simpa [Nat.add_assoc, Nat.add_comm 1 j] using this

/-- A REGION THAT DRAWS ITS ORDER: the first n operations are quiet in the class C, the rest stands in one order behind them. -/
theorem region_class_tail {id : Nat} {Q : Exit → Act → World → Prop} {a : Act} {w : World} {l : List Oper} (C : World → Prop) (n : Nat) (hm : P.follows .mixedOrders = true) (hB : Region.lexTailB .any l.toArray n = true)
    (hC : C w.drew) (h : wpQuiet P l.toArray C (fun a' => ∀ w', C w' → wpList P l.toArray Q (l.drop n) a' w') (l.take n) a) : (Code.region id l.toArray true).wp P Q a w := by
  simp only [Region.lexTailB, Bool.and_eq_true, decide_eq_true_eq] at hB
  obtain ⟨⟨⟨⟨hsel, hn⟩, hs⟩, hc⟩, hlex⟩ := hB
  have hn' : n < l.length := by simpa using hn
  have htl : (l.take n).length = n := by simp; omega
  have hdl : (l.drop n).length = l.toArray.size - n := by simp
  have inv0 : HeadInv .any l.toArray n (Array.replicate l.toArray.size false) :=
    ⟨by simp, fun j oj _ hl => (by rw [getD_replicate_false] at hl; cases hl), fun t _ ht => getD_in (by simpa using ht) (getD_replicate_false _ _)⟩
  have H := headQ_lex (md := .any) (g := l.toArray.size - n) hsel hs hc hn (l.take n) 0 _ a (fun j hj => by
    have hj' : j < n := by rw [htl] at hj; exact hj
    simp [hj']) (by simpa using htl) inv0 (by rw [htl]; exact hlex) h
  refine wp_region_any hm ?_
  have := any_of_headQ (Q' := Q) (g := l.toArray.size - n) (fun listed a' w' hw' hL => by
    have := wpAny_of_seq (md := .any) (Q' := Q) (l.drop n) n listed a' w' (fun j => by simp [List.getElem?_drop]) (by rw [hdl]; exact hL.1) (hL.2 w' hw')
    rwa [hdl] at this) _ _ _ _ hC H
  rw [htl, show n + (l.toArray.size - n) = l.toArray.size from by omega] at this
  exact this

/-- The same where the whole region is quiet in the class. -/
theorem region_class {id : Nat} {Q : Exit → Act → World → Prop} {a : Act} {w : World} {l : List Oper} (C : World → Prop) (hm : P.follows .mixedOrders = true) (hB : Region.lexB .any l.toArray = true)
    (hC : C w.drew) (h : wpQuiet P l.toArray C (fun a' => ∀ w', C w' → Q .normal a' w') l a) : (Code.region id l.toArray true).wp P Q a w :=
  wp_region_quiet (C := C) hm hB hC (by simpa using h)

/-- One operation without a guard: one value in every world of the class. -/
theorem quiet_ex {Q : Act → Prop} {a : Act} {o : Oper} {rest : List Oper} (hg : o.guard = none) (h : ∃ v, (∀ w, C w → o.quietAt P a C w v) ∧ wpQuiet P ops C Q rest (a.put o.dst v)) : wpQuiet P ops C Q (o :: rest) a := by
  unfold wpQuiet
  rw [if_pos (by simp [Region.wanted, hg])]
  exact h

/-- One operation without a guard: v in every world of the class. -/
theorem quiet_one {Q : Act → Prop} {a : Act} {o : Oper} {rest : List Oper} (v : Value) (hg : o.guard = none) (hv : ∀ w, C w → o.quietAt P a C w v) (h : wpQuiet P ops C Q rest (a.put o.dst v)) : wpQuiet P ops C Q (o :: rest) a := by
  unfold wpQuiet
  rw [if_pos (by simp [Region.wanted, hg])]
  exact ⟨v, hv, h⟩

end

/-- A REGION WHOSE FIRST n OPERATIONS LEAVE THE WORLD AS IT IS. -/
theorem region_tail {P : Program} {id : Nat} {Q : Exit → Act → World → Prop} {a : Act} {w : World} {l : List Oper} (n : Nat) (hm : P.follows .mixedOrders = true) (hB : Region.lexTailB .any l.toArray n = true)
    (h : wpStill P l.toArray w.drew (fun a' => wpList P l.toArray Q (l.drop n) a' w.drew) (l.take n) a) : (Code.region id l.toArray true).wp P Q a w :=
  wp_region_still_tail n hm hB h

theorem region_still {P : Program} {id : Nat} {Q : Exit → Act → World → Prop} {a : Act} {w : World} {l : List Oper} (hm : P.follows .mixedOrders = true) (hB : Region.lexB .any l.toArray = true)
    (h : wpStill P l.toArray w.drew (fun a' => Q .normal a' w.drew) l a) : (Code.region id l.toArray true).wp P Q a w :=
  wp_region_still_lit hm hB h

theorem still_in {P : Program} {f : FuncId} {args : Array Value} {w : World} {v : Value} (h : Calls P f args w fun e w' => e = .returned v ∧ w = w') :
    Calls P f args w (fun e w' => e = .returned v ∧ w' = w) := h.mono fun _ _ ⟨a, b⟩ => ⟨a, b.symm⟩

theorem ret_int {k : IntKind} {a b : Int} (h : a = b) : Ending.returned (.int k a) = .returned (.int k b) := by rw [h]
theorem ret_bool {a b : Bool} (h : a = b) : Ending.returned (.bool a) = .returned (.bool b) := by rw [h]

/-- The world behind is the world ahead, with more behind its end. -/
def Ext (w w' : World) : Prop := Below w.heap.size w w'
theorem Ext.refl (w : World) : Ext w w := Below.refl _ _
theorem Ext.of_eq {w w' : World} (h : w = w') : Ext w w' := h ▸ Ext.refl w
theorem Ext.size {w w' : World} (h : Ext w w') : w.heap.size ≤ w'.heap.size := Below.size h
theorem Ext.trans {a b c : World} (h : Ext a b) (k : Ext b c) : Ext a c := Below.trans h (Below.mono k h.size)
theorem Ext.drew {a b : World} (h : Ext a b) : Ext a b.drew := Below.drew h
theorem Ext.alloc {a b : World} (h : Ext a b) (o : Obj) : Ext a (b.alloc o) := Below.alloc h h.size o
theorem Ext.setCell {a b : World} (h : Ext a b) {p : Addr} (hp : a.heap.size ≤ p.block) (u : Value) : Ext a (b.setCell p u) := Below.setCell h hp u
theorem Ext.cell {w w' : World} (h : Ext w w') {p : Addr} {v : Value} (hc : w.cell? p = some v) : w'.cell? p = some v :=
  (Below.cell h (World.block_lt_of_cell? w p hc)).trans hc
theorem Ext.cells {w w' : World} (h : Ext w w') (b o : Nat) (hb : b < w.heap.size) : w'.cell? ⟨b, o, none⟩ = w.cell? ⟨b, o, none⟩ := Below.cell (p := ⟨b, o, none⟩) h hb
theorem Ext.frozens {w w' : World} (h : Ext w w') (b o : Nat) (hb : b < w.heap.size) : w'.frozen? ⟨b, o, none⟩ = w.frozen? ⟨b, o, none⟩ := Below.frozen (p := ⟨b, o, none⟩) h hb
/-- What a caller's own walk wants of a callee's world. -/
theorem Ext.view {w w' : World} (h : Ext w w') : (∀ b o, b < w.heap.size → w'.cell? ⟨b, o, none⟩ = w.cell? ⟨b, o, none⟩) ∧ (∀ b o, b < w.heap.size → w'.frozen? ⟨b, o, none⟩ = w.frozen? ⟨b, o, none⟩) := ⟨h.cells, h.frozens⟩
theorem Ext.below {w w' : World} (h : Ext w w') {B : Nat} (hB : B ≤ w.heap.size) : Below B w w' := Below.mono h hB
/-- WORLDS THAT EXTEND A WORLD, BY A TOKEN: 'W.extBy t' is some world that extends W by t.n blocks; whatever extends W is one. -/
structure Tok where
  w : World
  n : Nat
theorem tok_nonempty (W : World) : Nonempty Tok := ⟨⟨W, 0⟩⟩
instance : Nonempty Tok := tok_nonempty default
open Classical in
noncomputable def _root_.Go.World.extBy (W : World) (t : Tok) : World :=
  if Ext W t.w ∧ t.w.heap.size = W.heap.size + t.n then t.w else { W with heap := W.heap ++ Array.replicate t.n default }
theorem ext_pad (W : World) (n : Nat) : Ext W { W with heap := W.heap ++ Array.replicate n default } := by
  refine ⟨rfl, rfl, rfl, by simp, fun k hk => ?_⟩
  show (W.heap ++ Array.replicate n default)[k]? = _
  rw [Array.getElem?_append_left hk]
theorem Ext.by (W : World) (t : Tok) : Ext W (W.extBy t) := by
  unfold World.extBy
  split
  · rename_i h; exact h.1
  · exact ext_pad W t.n
@[go_sem, simp] theorem size_extBy (W : World) (t : Tok) : (W.extBy t).heap.size = W.heap.size + t.n := by
  unfold World.extBy
  split
  · rename_i h; exact h.2
  · simp
theorem Ext.tok {W w : World} (h : Ext W w) : ∃ t, w = W.extBy t := by
  refine ⟨⟨w, w.heap.size - W.heap.size⟩, ?_⟩
  unfold World.extBy
  rw [if_pos ⟨h, by have := h.size; simp only; omega⟩]
theorem Ext.tok2 {W w : World} {t : Tok} (h : Ext (W.extBy t) w) : ∃ t', w = W.extBy t' := ((Ext.by W t).trans h).tok
@[go_sem] theorem cell?_extBy (W : World) (t : Tok) (b o : Nat) (hb : b < W.heap.size) : (W.extBy t).cell? ⟨b, o, none⟩ = W.cell? ⟨b, o, none⟩ := (Ext.by W t).cells b o hb
@[go_sem] theorem frozen?_extBy (W : World) (t : Tok) (b o : Nat) (hb : b < W.heap.size) : (W.extBy t).frozen? ⟨b, o, none⟩ = W.frozen? ⟨b, o, none⟩ := (Ext.by W t).frozens b o hb
@[go_sem] theorem lt_tok (a b : Nat) (t : Tok) (h : a < b) : a < b + t.n := Nat.lt_of_lt_of_le h (Nat.le_add_right _ _)
@[go_sem] theorem le_tok (a b : Nat) (t : Tok) (h : a ≤ b) : a ≤ b + t.n := Nat.le_trans h (Nat.le_add_right _ _)
@[go_sem] theorem ne_tok (a b : Nat) (t : Tok) (h : a < b) : (a = b + t.n) = False := eq_false (by omega)
@[go_sem] theorem ne_tok' (a b : Nat) (t : Tok) (h : a < b) : (b + t.n = a) = False := eq_false (by omega)
theorem heap_extBy (W : World) (t : Tok) (b : Nat) (hb : b < W.heap.size) : (W.extBy t).heap[b]? = W.heap[b]? := Below.block (Ext.by W t) b hb
theorem Ext.extBy {a b : World} (h : Ext a b) (t : Tok) : Ext a (b.extBy t) := h.trans (Ext.by b t)
theorem Below.extBy {B : Nat} {a b : World} (h : Below B a b) (hB : B ≤ b.heap.size) (t : Tok) : Below B a (b.extBy t) := Below.trans h ((Ext.by b t).below hB)
theorem tok_self (W : World) : ∃ t, W = W.extBy t := (Ext.refl W).tok
theorem tok_of_drew (W : World) : ∃ t, W.drew = W.extBy t := (Ext.refl W).drew.tok

/-- A region that draws its order and whose operations are quiet in the worlds that extend the world ahead of it. -/
theorem region_ext {P : Program} {id : Nat} {Q : Exit → Act → World → Prop} {a : Act} {w : World} {l : List Oper} (hm : P.follows .mixedOrders = true) (hB : Region.lexB .any l.toArray = true)
    (h : wpQuiet P l.toArray (fun w' => ∃ t, w' = w.extBy t) (fun a' => ∀ w', (∃ t, w' = w.extBy t) → Q .normal a' w') l a) : (Code.region id l.toArray true).wp P Q a w :=
  region_class _ hm hB (tok_of_drew w) h
theorem region_ext_tail {P : Program} {id : Nat} {Q : Exit → Act → World → Prop} {a : Act} {w : World} {l : List Oper} (n : Nat) (hm : P.follows .mixedOrders = true) (hB : Region.lexTailB .any l.toArray n = true)
    (h : wpQuiet P l.toArray (fun w' => ∃ t, w' = w.extBy t) (fun a' => ∀ w', (∃ t, w' = w.extBy t) → wpList P l.toArray Q (l.drop n) a' w') (l.take n) a) : (Code.region id l.toArray true).wp P Q a w :=
  region_class_tail _ n hm hB (tok_of_drew w) h
theorem region_ext2 {P : Program} {id : Nat} {Q : Exit → Act → World → Prop} {a : Act} {w : World} {t : Tok} {l : List Oper} (hm : P.follows .mixedOrders = true) (hB : Region.lexB .any l.toArray = true)
    (h : wpQuiet P l.toArray (fun w' => ∃ t, w' = w.extBy t) (fun a' => ∀ w', (∃ t, w' = w.extBy t) → Q .normal a' w') l a) : (Code.region id l.toArray true).wp P Q a (w.extBy t) :=
  region_class _ hm hB (Ext.by w t).drew.tok h
theorem region_ext_tail2 {P : Program} {id : Nat} {Q : Exit → Act → World → Prop} {a : Act} {w : World} {t : Tok} {l : List Oper} (n : Nat) (hm : P.follows .mixedOrders = true) (hB : Region.lexTailB .any l.toArray n = true)
    (h : wpQuiet P l.toArray (fun w' => ∃ t, w' = w.extBy t) (fun a' => ∀ w', (∃ t, w' = w.extBy t) → wpList P l.toArray Q (l.drop n) a' w') (l.take n) a) : (Code.region id l.toArray true).wp P Q a (w.extBy t) :=
  region_class_tail _ n hm hB (Ext.by w t).drew.tok h
theorem Ext.drewN {a b : World} (h : Ext a b) (n : Nat) : Ext a (b.drewN n) := Below.trans h ⟨rfl, rfl, rfl, Nat.le_refl _, fun _ _ => rfl⟩
/-- A region that draws its order and only reads. -/
theorem region_drew {P : Program} {id : Nat} {Q : Exit → Act → World → Prop} {a : Act} {w : World} {l : List Oper} (hm : P.follows .mixedOrders = true) (hB : Region.lexB .any l.toArray = true)
    (h : wpQuiet P l.toArray (fun w' => ∃ n, w' = w.drewN n) (fun a' => ∀ w', (∃ n, w' = w.drewN n) → Q .normal a' w') l a) : (Code.region id l.toArray true).wp P Q a w :=
  region_class _ hm hB ⟨1, rfl⟩ h
theorem region_drew_tail {P : Program} {id : Nat} {Q : Exit → Act → World → Prop} {a : Act} {w : World} {l : List Oper} (n : Nat) (hm : P.follows .mixedOrders = true) (hB : Region.lexTailB .any l.toArray n = true)
    (h : wpQuiet P l.toArray (fun w' => ∃ n, w' = w.drewN n) (fun a' => ∀ w', (∃ n, w' = w.drewN n) → wpList P l.toArray Q (l.drop n) a' w') (l.take n) a) : (Code.region id l.toArray true).wp P Q a w :=
  region_class_tail _ n hm hB ⟨1, rfl⟩ h
theorem in_drew {P : Program} {f : FuncId} {args : Array Value} {W : World} {n : Nat} {v : Value} (h : Calls P f args (W.drewN n) fun e w' => e = .returned v ∧ W.drewN n = w') :
    Calls P f args (W.drewN n) (fun e w' => e = .returned v ∧ ∃ m, w' = W.drewN m) := h.mono fun _ _ hh => ⟨hh.1, n, hh.2.symm⟩
/-- A callee's contract, met in a world of the class. -/
theorem in_same {P : Program} {f : FuncId} {args : Array Value} {W : World} {t : Tok} {v : Value} (h : Calls P f args (W.extBy t) fun e w' => e = .returned v ∧ W.extBy t = w') :
    Calls P f args (W.extBy t) (fun e w' => e = .returned v ∧ ∃ t', w' = W.extBy t') := h.mono fun _ _ hh => ⟨hh.1, t, hh.2.symm⟩
theorem in_ext {P : Program} {f : FuncId} {args : Array Value} {W : World} {t : Tok} {v : Value} (h : Calls P f args (W.extBy t) fun e w' => e = .returned v ∧ Ext (W.extBy t) w') :
    Calls P f args (W.extBy t) (fun e w' => e = .returned v ∧ ∃ t', w' = W.extBy t') := h.mono fun _ _ hh => ⟨hh.1, ((Ext.by W t).trans hh.2).tok⟩
/-- A contract that leaves the world alone, as one that extends it. -/
theorem ext_of_same {P : Program} {f : FuncId} {args : Array Value} {w : World} {v : Value} (h : Calls P f args w fun e w' => e = .returned v ∧ w = w') :
    Calls P f args w (fun e w' => e = .returned v ∧ Ext w w') := h.mono fun _ _ hh => ⟨hh.1, Ext.of_eq hh.2⟩

theorem heap_alloc_at (w : World) (o : Obj) (n : Nat) (h : n = w.heap.size) : (w.alloc o).heap[n]? = some o := by subst h; exact heap_alloc_last w o
/-- A whole row stored into the block that was made last. -/
theorem wpList_store_last {P : Program} {ops : Array Oper} {rest : List Oper} {o : Oper} {a : Act} {w : World} {Q : Exit → Act → World → Prop} (hgd : o.guard = none) (ty : TypeId) (x y : Operand) (ho : o.op = .store ty x y)
    (n : Nat) (cells old : Array Value) (t : TypeId) (hx : a.eval x = .pointer (some ⟨n, 0, none⟩)) (hy : a.eval y = .agg cells) (hn : n = w.heap.size) (hi : (P.info? ty).map (·.size) = some cells.size)
    (hold : old.size = cells.size) (h1 : cells.all (·.oneCell') = true)
    (h : wpList P ops Q rest (a.put o.dst undef) (w.alloc (.cells cells t))) : wpList P ops Q (o :: rest) a (w.alloc (.cells old t)) := by
  subst hn
  refine wpList_store_row hgd ty x y ho _ cells hx hy t old (heap_alloc_last _ _) hi hold h1 ?_
  rw [World.setRow_alloc_new]
  exact h
/-- A SLICE THAT IS READ: its value, its length, its cells. -/
def SlC (w : World) (v : Value) (n : Nat) (cs : List Value) : Prop :=
  ∃ a cap, v = .slice a n cap ∧ n ≤ cap ∧ cap ≤ maxLen ∧ ∀ j u, cs[j]? = some u → ∃ b o, a = some ⟨b, o, none⟩ ∧ w.cell? ⟨b, o + j, none⟩ = some u
theorem SlC.ext {w w' : World} {v : Value} {n : Nat} {cs : List Value} (h : SlC w v n cs) (hx : Ext w w') : SlC w' v n cs := by
  obtain ⟨a, cap, h1, h2, h3, h4⟩ := h
  exact ⟨a, cap, h1, h2, h3, fun j u hu => let ⟨b, o, e1, e2⟩ := h4 j u hu; ⟨b, o, e1, hx.cell e2⟩⟩
theorem SlC.below {B : Nat} {w w' : World} {v : Value} {n : Nat} {cs : List Value} (h : SlC w v n cs) (hB : w.heap.size ≤ B) (hx : Below B w w') : SlC w' v n cs := h.ext (Below.mono hx hB)
theorem SlC.of_owns {w : World} {base : Nat} {e : TypeId} {size : Nat} {v : Value} {n : Nat} {xs : List Value} (h : w.ownsRow base e size v n xs) : SlC w v n xs := by
  rcases h.2 with ⟨rfl, rfl⟩ | ⟨g, cap, cur, rfl, hb, hg, hnc, hcm, hcs, htake⟩
  · have hx : xs = [] := List.eq_nil_of_length_eq_zero (by simpa using h.1)
    subst hx
    exact ⟨none, 0, rfl, Nat.le_refl _, Nat.zero_le _, fun j u hu => by simp at hu⟩
  · refine ⟨some ⟨g, 0, none⟩, cap, rfl, hnc, hcm, fun j u hu => ⟨g, 0, rfl, ?_⟩⟩
    rw [Nat.zero_add, cell_of_row w g j cur e (0, 0) hg]
    rw [← htake, List.getElem?_take] at hu
    split at hu
    · simpa using hu
    · cases hu
theorem ownsRow_ext {w w' : World} {base : Nat} {e : TypeId} {size : Nat} {v : Value} {n : Nat} {xs : List Value} (h : w.ownsRow base e size v n xs) (hx : Ext w w') : w'.ownsRow base e size v n xs :=
  h.kept (row := none) ⟨hx.os, hx.tape, hx.output, hx.size, fun k hk _ => Below.block hx k hk⟩ (by cases hv : v.ownBlock <;> simp)
theorem ownsRow_base {w : World} {base base' : Nat} {e : TypeId} {size : Nat} {v : Value} {n : Nat} {xs : List Value} (h : w.ownsRow base e size v n xs) (hb : base' ≤ base) : w.ownsRow base' e size v n xs :=
  ⟨h.1, h.2.imp id fun ⟨g, cap, cur, h1, h2, r⟩ => ⟨g, cap, cur, h1, Nat.le_trans hb h2, r⟩⟩
/-- An owned row that holds something begins at the head of a block. -/
theorem ownsRow_some {w : World} {base : Nat} {e : TypeId} {size : Nat} {v : Value} {n : Nat} {xs : List Value} (h : w.ownsRow base e size v n xs) (hn : 0 < n) : ∃ g cap, v = .slice (some ⟨g, 0, none⟩) n cap ∧ base ≤ g ∧ n ≤ cap ∧ g < w.heap.size := by
  rcases h.2 with ⟨_, rfl⟩ | ⟨g, cap, cur, rfl, hb, hg, hnc, _⟩
  · omega
  · exact ⟨g, cap, rfl, hb, hnc, (Array.getElem?_eq_some_iff.1 hg).1⟩
theorem cell_alloc_list (w : World) (news : Array Value) (e : TypeId) (n : Nat) (hn : n = w.heap.size) : ∀ j u, news.toList[j]? = some u → (w.alloc (.cells news e)).cell? ((⟨n, 0, none⟩ : Addr).add j) = some u := by
  intro j u hu
  subst hn
  have hadd : (⟨w.heap.size, 0, none⟩ : Addr).add j = ⟨w.heap.size, j, none⟩ := by unfold Addr.add; split <;> simp_all
  rw [hadd, cell_of_row _ _ j news e (0, 0) (heap_alloc_last w _)]
  simpa using hu
/-- 'append(s, x, ..)': what is appended lies in the block that was made last. -/
theorem wpList_append_lit {P : Program} {ops : Array Oper} {rest : List Oper} {o : Oper} {a : Act} {wr : World} {Q : Exit → Act → World → Prop} (hgd : o.guard = none) (s x : Operand) (t e : TypeId)
    (ho : o.op = .call { callee := .builtin .append, args := #[s, x], argTypes := #[t, t] }) (z : Value) (size bytes : Nat) (ht : P.underlying t = some (.slice e))
    (hinfo : (P.info? e).map (fun i => (i.zero, i.size, i.bytes)) = some (some z, size, bytes)) (hzs : z.cells.size = size) (hsz : 0 < size)
    (base : Nat) (v : Value) (n : Nat) (xs : List Value) (hs : a.eval s = v) (hown : wr.ownsRow base e size v n xs) (m c nb : Nat) (news : Array Value)
    (hx : a.eval x = .slice (some ⟨nb, 0, none⟩) m c) (hnb : nb = wr.heap.size) (hl : news.size = m * size) (h1 : news.all (·.oneCell') = true)
    (h63 : n + m ≤ maxLen) (hbytes : (n + m) * bytes ≤ 140737488355328) (hbase : base ≤ wr.heap.size)
    (h : ∀ v' w', w'.ownsRow base e size v' (n + m) (xs ++ news.toList) → (wr.alloc (.cells news e)).grownBy w' v.ownBlock → Below base wr w' → wpList P ops Q rest (a.put o.dst v') w') :
    wpList P ops Q (o :: rest) a (wr.alloc (.cells news e)) := by
  obtain ⟨i0, hi, hz0, hz1, hz2⟩ := info_parts hinfo
  refine wpList_append_own _ hgd s x t ho base e i0 z size bytes ht hi hz0 hz1 hz2 hzs hsz v n xs hs (hown.alloc _) ⟨nb, 0, none⟩ m c news.toList hx (by simpa using hl) (cell_alloc_list _ _ _ _ hnb)
    (fun u hu => (Array.all_eq_true_iff_forall_mem.1 h1) u (by simpa using hu)) h63 hbytes (by simp; omega) ?_
  intro v' w' hown' hg _
  refine h v' w' hown' hg ?_
  refine Below.grown ((Below.refl base wr).alloc hbase _) hg (by simp; omega) (fun k hk => (hown.lt k hk).1)
/-- A result that lies in one row of memory. -/
theorem ret_row {P : Program} {fn : Func} {R : Ending → World → Prop} {a : Act} {w : World} {p : Tmp} {ty : TypeId} (h : fn.results = #[.cell p ty]) (n : Nat) (t : TypeId) (cs : Array Value) (d : TypeDesc)
    (hp : a.tmps.getD p undef = .pointer (some ⟨n, 0, none⟩)) (hg : w.heap[n]? = some (.cells cs t (0, 0)))
    (hu : P.underlying ty = some d) (hd : (match d with | .struct _ | .array _ _ => true | _ => false) = true) (hi : (P.info? ty).map (·.size) = some cs.size) (hdf : a.defers = [])
    (hR : R (.returned (.agg cs)) w) : bodyPost P fn R .ret a w :=
  bodyPost_ret (results_cell_row h _ _ _ _ _ _ _ hp hg hu hd hi) hdf hR
end Go.Proofs.Ytkjgghbdpmkmoaa

/-
  A region that draws its order: its head walked by hand; a condition on the world that all but its late operations keep.
  No condition.
  A range over a function whose iterator keeps a memory of its own beside the loop's, and whose body goes on to the end.
  No condition.
  The walk: the methods of sched's places, and how they are reached through an interface.
  Condition: the places lie in memory.
  The walk: the library's heap over places.
  Condition: the places lie in memory.
  The walk: the library's heap over places, downwards; Push and Pop.
  Condition: the places lie in memory.
  The walk: numbers, each once, as an iterator.
  Conditions: the numbers lie in memory; the rounds keep them.
-/
import Derived.Test.YtmommjagndadjaaJcA
import Derived.Deep.RegionHeld3
import Derived.RangeFuncNested
import Derived.RangeFuncBound
import Derived.RangeFuncCalls
import Derived.RangeFuncLeaves
import Derived.Test.YtmommjagndadjaaJcK
import Derived.Shelf.Abstract
import Derived.Shelf.RegionOpen
import Derived.OwnWalkIn
import Derived.TacticsInMore
import Derived.LoopNIn
import Derived.LoopIn
namespace Go.Proofs.Ytmommjagndadjaa
open Go.RowKit
set_option linter.unusedSimpArgs false
set_option linter.unusedVariables false
set_option maxRecDepth 100000

section
variable {P : Program} {ops : Array Oper} {Q : Exit → Act → World → Prop} {md : Region.Mode} {late : Nat → Bool} {S : World → Prop} {n : Nat} {R : Array Bool → Act → World → Prop}
/-- Whatever order is picked among the first n operations, f of them still to come; S behind each; R at their end. -/
def HeadU (P : Program) (md : Region.Mode) (ops : Array Oper) (Q : Exit → Act → World → Prop) (late : Nat → Bool) (S : World → Prop) (n : Nat) (R : Array Bool → Act → World → Prop) : Nat → Array Bool → Act → World → Prop
  | 0, listed, a, w => R listed a w
  | f + 1, listed, a, w => HeadInv md ops n listed → Region.ready md ops listed ≠ [] ∧ ∀ i ∈ Region.ready md ops listed, i < n ∧ wpOp P ops Q i (fun a' w' => (late i = false → S w → S w') ∧ HeadU P md ops Q late S n R f (listed.setIfInBounds i true) a' w') a w
theorem any_of_headU {g : Nat} (hR : ∀ listed a w, R listed a w → wpAny P md ops Q g listed a w) :
    ∀ (f : Nat) (listed : Array Bool) (a : Act) (w : World), HeadInv md ops n listed → HeadU P md ops Q late S n R f listed a w → wpAny P md ops Q (f + g) listed a w := by
  intro f
  induction f with
  | zero => intro listed a w _ h; rw [Nat.zero_add]; exact hR _ _ _ h
  | succ f ih =>
    intro listed a w inv h
    obtain ⟨h0, h1⟩ := h inv
    rw [show f + 1 + g = (f + g) + 1 from by omega]
    exact ⟨fun e => absurd e h0, fun i hi => wpOp_mono (fun a' w' h' => ih _ a' w' (inv.set hi (h1 i hi).1) h'.2) (h1 i hi).2⟩
theorem headU_first {i : Nat} {oi : Oper} {v : Value} (hi : ops[i]? = some oi) (hsel : ∀ (j : Nat) (o : Oper) cs b, ops[j]? = some o → o.op ≠ .select cs b)
    (hQ : ∀ c a w, Q (.panic c) (a.put oi.dst v) w → Q (.panic c) a w) (hs : Region.sinkB md ops n = true) (hc : Region.chainB md ops n = true) (hn : n < ops.size) (hin : i < n) (hlate : ∀ j, j < n → late j = true → Region.waitsFor md ops j i = true)
    (hdone : ∀ listed a w, R listed a w → ∀ j ∈ Region.ready md ops listed, n ≤ j) :
    ∀ (f : Nat) (listed : Array Bool) (a : Act) (w : World),
      (∀ j oj, ops[j]? = some oj → j ≠ i → listed.getD j true = false → (∀ e ∈ oj.after, Region.binds md e = true → e.on ≠ i) → oi.apart ops oj = true) →
      i ∈ Region.ready md ops listed → YieldsIf P ops S oi v a → S w →
      HeadU P md ops Q late S n R f (listed.setIfInBounds i true) (a.put oi.dst v) w → HeadU P md ops Q late S n R (f + 1) listed a w := by
  intro f
  induction f with
  | zero =>
    intro listed a w _ hr hy hS H inv
    refine ⟨fun h => (by rw [h] at hr; cases hr), fun j hj => ?_⟩
    have hun := (mem_ready.1 hr).1
    by_cases hjn : j < n
    · refine ⟨hjn, ?_⟩
      by_cases hji : j = i
      · subst hji; exact hy.wpOp hi hS ⟨fun _ h => h, H⟩
      · have := hdone _ _ _ H j (ready_mono hj hji)
        omega
    · exact absurd hj (tail_waits hs hc hn inv _ i rfl hin hun j (by omega))
  | succ f ih =>
    intro listed a w hfree hr hy hS H inv
    refine ⟨fun h => (by rw [h] at hr; cases hr), fun j hj => ?_⟩
    have hun := (mem_ready.1 hr).1
    by_cases hjn : j < n
    · refine ⟨hjn, ?_⟩
      by_cases hji : j = i
      · subst hji; exact hy.wpOp hi hS ⟨fun _ h => h, H⟩
      · have h1 := ((H (inv.set hr hin)).2 j (ready_mono hj hji)).2
        obtain ⟨hjun, oj, hoj, hall⟩ := mem_ready.1 hj
        have hnot : ∀ e ∈ oj.after, Region.binds md e = true → e.on ≠ i := fun e he hb heq => by
          have h3 := hall e he hb
          rw [heq, getD_both hun] at h3
          cases h3
        have h2 := wpOp_putIf hoj (hfree j oj hoj hji hjun hnot) (fun cs b => hsel i oi cs b hi) (fun cs b => hsel j oj cs b hoj) hQ hy h1
        have hfree' : ∀ k ok, ops[k]? = some ok → k ≠ i → (listed.setIfInBounds j true).getD k true = false →
            (∀ e ∈ ok.after, Region.binds md e = true → e.on ≠ i) → oi.apart ops ok = true := fun k ok hk hki hun hno => by
          refine hfree k ok hk hki ?_ hno
          by_cases hjk : j = k
          · subst hjk; exact hjun
          · rw [getD_set_ne true hjk] at hun; exact hun
        have hlj : late j = false := by
          cases hl : late j with
          | false => rfl
          | true =>
            obtain ⟨o', ho', e, he, hb, hon⟩ := Region.waitsFor_spec (hlate j hjn hl)
            have : o' = oj := Option.some.inj (ho'.symm.trans hoj)
            subst this
            exact absurd hon (hnot e he hb)
        refine wpOp_mono (fun a' w' h3 => ⟨h3.2.1, ih (listed.setIfInBounds j true) a' w' hfree' (ready_mono hr (Ne.symm hji)) h3.1 (h3.2.1 hlj hS) ?_⟩) h2
        rw [Array.setIfInBounds_comm _ _ hji]
        exact h3.2.2
    · exact absurd hj (tail_waits hs hc hn inv _ i rfl hin hun j (by omega))
theorem headU_still {i : Nat} {oi : Oper} {v : Value} (hi : ops[i]? = some oi) (hsel : ∀ (j : Nat) (o : Oper) cs b, ops[j]? = some o → o.op ≠ .select cs b)
    (hQ : ∀ c a w, Q (.panic c) (a.put oi.dst v) w → Q (.panic c) a w) (hs : Region.sinkB md ops n = true) (hc : Region.chainB md ops n = true) (hn : n < ops.size) (hin : i < n)
    (hdone : ∀ listed a w, R listed a w → ∀ j ∈ Region.ready md ops listed, n ≤ j) :
    ∀ (f : Nat) (listed : Array Bool) (a : Act) (w : World),
      (∀ j oj, ops[j]? = some oj → j ≠ i → listed.getD j true = false → (∀ e ∈ oj.after, Region.binds md e = true → e.on ≠ i) → oi.apart ops oj = true) →
      i ∈ Region.ready md ops listed → Yields P ops oi v a →
      HeadU P md ops Q late S n R f (listed.setIfInBounds i true) (a.put oi.dst v) w → HeadU P md ops Q late S n R (f + 1) listed a w := by
  intro f
  induction f with
  | zero =>
    intro listed a w _ hr hy H inv
    refine ⟨fun h => (by rw [h] at hr; cases hr), fun j hj => ?_⟩
    have hun := (mem_ready.1 hr).1
    by_cases hjn : j < n
    · refine ⟨hjn, ?_⟩
      by_cases hji : j = i
      · subst hji; exact hy.wpOp hi ⟨fun _ h => h, H⟩
      · have := hdone _ _ _ H j (ready_mono hj hji)
        omega
    · exact absurd hj (tail_waits hs hc hn inv _ i rfl hin hun j (by omega))
  | succ f ih =>
    intro listed a w hfree hr hy H inv
    refine ⟨fun h => (by rw [h] at hr; cases hr), fun j hj => ?_⟩
    have hun := (mem_ready.1 hr).1
    by_cases hjn : j < n
    · refine ⟨hjn, ?_⟩
      by_cases hji : j = i
      · subst hji; exact hy.wpOp hi ⟨fun _ h => h, H⟩
      · have h1 := ((H (inv.set hr hin)).2 j (ready_mono hj hji)).2
        obtain ⟨hjun, oj, hoj, hall⟩ := mem_ready.1 hj
        have hnot : ∀ e ∈ oj.after, Region.binds md e = true → e.on ≠ i := fun e he hb heq => by
          have h3 := hall e he hb
          rw [heq, getD_both hun] at h3
          cases h3
        have h2 := wpOp_put hoj (hfree j oj hoj hji hjun hnot) (fun cs b => hsel i oi cs b hi) (fun cs b => hsel j oj cs b hoj) hQ hy h1
        have hfree' : ∀ k ok, ops[k]? = some ok → k ≠ i → (listed.setIfInBounds j true).getD k true = false →
            (∀ e ∈ ok.after, Region.binds md e = true → e.on ≠ i) → oi.apart ops ok = true := fun k ok hk hki hun hno => by
          refine hfree k ok hk hki ?_ hno
          by_cases hjk : j = k
          · subst hjk; exact hjun
          · rw [getD_set_ne true hjk] at hun; exact hun
        refine wpOp_mono (fun a' w' h3 => ⟨h3.2.1, ih (listed.setIfInBounds j true) a' w' hfree' (ready_mono hr (Ne.symm hji)) h3.1 ?_⟩) h2
        rw [Array.setIfInBounds_comm _ _ hji]
        exact h3.2.2
    · exact absurd hj (tail_waits hs hc hn inv _ i rfl hin hun j (by omega))
end
section
variable {P : Program} {l : List Oper} {Q : Exit → Act → World → Prop} {late : Nat → Bool} {S : World → Prop} {n : Nat}
/-- The rest stands in one order. -/
def TailU (P : Program) (l : List Oper) (Q : Exit → Act → World → Prop) (n : Nat) (listed : Array Bool) (a : Act) (w : World) : Prop := Region.seqB .any l.toArray (l.length - n) n listed = true ∧ wpList P l.toArray Q (l.drop n) a w
def HuD (P : Program) (l : List Oper) (Q : Exit → Act → World → Prop) (late : Nat → Bool) (S : World → Prop) (n : Nat) (f : Nat) (listed : Array Bool) (a : Act) (w : World) : Prop := HeadU P .any l.toArray Q late S n (TailU P l Q n) f listed a w
def tailU (l : List Oper) (n : Nat) : Bool := Region.noSelect l.toArray && decide (n < l.length) && Region.sinkB .any l.toArray n && Region.chainB .any l.toArray n
/-- The beginning. -/
theorem hu_begin {id : Nat} {a : Act} {w : World} (n : Nat) (hm : P.follows .mixedOrders = true) (hB : tailU l n = true) (hS : S w.drew) (h : S w.drew → HuD P l Q late S n n (Array.replicate l.length false) a w.drew) : (Code.region id l.toArray true).wp P Q a w := by
  simp only [tailU, Bool.and_eq_true, decide_eq_true_eq] at hB
  obtain ⟨⟨⟨_, hn⟩, _⟩, _⟩ := hB
  have inv0 : HeadInv .any l.toArray n (Array.replicate l.length false) :=
    ⟨by simp, fun j oj _ hl => (by rw [getD_replicate_false] at hl; cases hl), fun t _ ht => getD_in (by simpa using ht) (getD_replicate_false _ _)⟩
  have hdl : (l.drop n).length = l.length - n := by simp
  refine wp_region_any hm ?_
  have := any_of_headU (Q := Q) (late := late) (S := S) (R := TailU P l Q n) (g := l.length - n) (fun listed a' w' hR => by
    have := wpAny_of_seq (md := .any) (Q' := Q) (l.drop n) n listed a' w' (fun j => by simp [List.getElem?_drop]) (by rw [hdl]; exact hR.1) hR.2
    rwa [hdl] at this) n _ a _ inv0 (h hS)
  rw [show n + (l.length - n) = l.toArray.size from by simp; omega] at this
  simpa using this
/-- Number i is taken first: it yields v in every world that meets S. -/
theorem hu_take {i f : Nat} {oi : Oper} {v : Value} {listed : Array Bool} {a : Act} {w : World} (hi : l[i]? = some oi) (hB : tailU l n = true) (hB2 : ((List.range n).all (fun j => !late j || Region.waitsFor .any l.toArray j i) && decide (i < n) && Region.free .any l.toArray listed i && (Region.ready .any l.toArray listed).contains i) = true)
    (hQ : ∀ c a w, Q (.panic c) (a.put oi.dst v) w → Q (.panic c) a w) (hy : YieldsIf P l.toArray S oi v a) (hS : S w) (h : HuD P l Q late S n f (listed.setIfInBounds i true) (a.put oi.dst v) w) : HuD P l Q late S n (f + 1) listed a w := by
  simp only [tailU, Bool.and_eq_true, decide_eq_true_eq] at hB hB2
  obtain ⟨⟨⟨hsel, hn⟩, hs⟩, hc⟩ := hB
  obtain ⟨⟨⟨hlt, hin⟩, hf⟩, hr⟩ := hB2
  have hlate : ∀ j, j < n → late j = true → Region.waitsFor .any l.toArray j i = true := fun j hj hl => by
    have h1 := List.all_eq_true.1 hlt j (List.mem_range.2 hj)
    rw [hl] at h1
    simpa using h1
  have hi' : l.toArray[i]? = some oi := by simpa using hi
  exact headU_first hi' (Region.noSelect_spec hsel) hQ hs hc (by simpa using hn) hin hlate (fun _ _ _ hR => seqB_ready hR.1) f listed a w (Region.free_spec hi' hf) (by simpa using hr) hy hS h
/-- Number i is taken first: it yields v in every world. -/
theorem hu_still {i f : Nat} {oi : Oper} {v : Value} {listed : Array Bool} {a : Act} {w : World} (hi : l[i]? = some oi) (hB : tailU l n = true) (hB2 : (decide (i < n) && Region.free .any l.toArray listed i && (Region.ready .any l.toArray listed).contains i) = true)
    (hQ : ∀ c a w, Q (.panic c) (a.put oi.dst v) w → Q (.panic c) a w) (hy : Yields P l.toArray oi v a) (h : HuD P l Q late S n f (listed.setIfInBounds i true) (a.put oi.dst v) w) : HuD P l Q late S n (f + 1) listed a w := by
  simp only [tailU, Bool.and_eq_true, decide_eq_true_eq] at hB hB2
  obtain ⟨⟨⟨hsel, hn⟩, hs⟩, hc⟩ := hB
  obtain ⟨⟨hin, hf⟩, hr⟩ := hB2
  have hi' : l.toArray[i]? = some oi := by simpa using hi
  exact headU_still hi' (Region.noSelect_spec hsel) hQ hs hc (by simpa using hn) hin (fun _ _ _ hR => seqB_ready hR.1) f listed a w (Region.free_spec hi' hf) (by simpa using hr) hy h
/-- Number i alone may come up. -/
theorem hu_one {i f : Nat} {o : Oper} {listed : Array Bool} {a : Act} {w : World} (hi : l[i]? = some o) (hr : Region.ready .any l.toArray listed = [i]) (hin : i < n)
    (h : ∀ K' : Act → World → Prop, Shut (∀ a w', (late i = false → S w → S w') → HuD P l Q late S n f (listed.setIfInBounds i true) a w' → K' a w') → if Region.wanted o (yielded l.toArray a.tmps) = true then Oper.wp P o a w K' Q else K' (a.put o.dst undef) w) : HuD P l Q late S n (f + 1) listed a w := by
  intro _
  rw [hr]
  refine ⟨by simp, fun j hj => ?_⟩
  obtain rfl := List.mem_singleton.1 hj
  exact ⟨hin, wpOp_step (by simpa using hi) (fun K' hK => h K' (fun a w' hS hW => hK a w' ⟨hS, hW⟩))⟩
/-- The head is over. -/
theorem hu_end {listed : Array Bool} {a : Act} {w : World} (hB : Region.seqB .any l.toArray (l.length - n) n listed = true) (h : wpList P l.toArray Q (l.drop n) a w) : HuD P l Q late S n 0 listed a w := ⟨hB, h⟩
end
end Go.Proofs.Ytmommjagndadjaa
namespace Go.Proofs.Ytmommjagndadjaa
open Go.RowKit
set_option linter.unusedSimpArgs false
set_option linter.unusedVariables false
set_option maxRecDepth 100000

/-- The blocks of Z lie as they lay. -/
def KpZ (Z : Nat → Prop) (W W' : World) : Prop := W.heap.size ≤ W'.heap.size ∧ ∀ k, Z k → k < W.heap.size → W'.heap[k]? = W.heap[k]?
theorem KpZ.refl (Z : Nat → Prop) (W : World) : KpZ Z W W := ⟨Nat.le_refl _, fun _ _ _ => rfl⟩
theorem KpZ.trans {Z : Nat → Prop} {A B C : World} (h : KpZ Z A B) (k : KpZ Z B C) : KpZ Z A C :=
  ⟨Nat.le_trans h.1 k.1, fun i hi hl => (k.2 i hi (Nat.lt_of_lt_of_le hl h.1)).trans (h.2 i hi hl)⟩
theorem KpZ.of_kb {Z : Nat → Prop} {S : List Nat} {A B : World} (h : Kb S A B) (hS : ∀ k ∈ S, ¬ Z k) : KpZ Z A B :=
  ⟨h.size, fun i hi hl => h.block i hl (fun e => hS i e hi)⟩
theorem kb_putObj (W : World) (l : Nat) (o : Obj) : Kb [l] W (W.putObj l o) := Kb.grown (grownBy_putObj' W l o) (fun g hg => by cases hg; simp)
theorem range_mem {α : Type} {F : Fence} {n : Nat} {P : Program} {g : Operand} {ps : Array Tmp} {assign body : Code} {Q : Exit → Act → World → Prop} {a : Act} {w : World}
    (hro : F.round = none) (h1 : 1 ≤ n) {gf : Nat} {lb : Array Value} (hg : a.eval g = .func (.func gf) #[] lb) (hFg : F.fn gf) (eg : ∀ args w, (callFunc gf args).run P w = .ok (.enter gf args) w)
    (encs : α → Array Value) (hps : ∀ x, (encs x).size = ps.size) (xs : List α) (I : List α → World → Prop) (Z : Nat → Prop) (hZ : Z w.heap.size ∧ Z (w.heap.size + 1))
    (hIx : ∀ s W W', I s W → Ext W W' → I s W') (hIk : ∀ s W W', I s W → Kb [w.heap.size, w.heap.size + 1, w.heap.size + 2] W W' → I s W') (h0 : I [] w)
    (hit : ∀ (l : Nat) (J : List α → World → Prop), (∀ s W W', J s W → Ext W W' → J s W') → (∀ s W W', J s W → Kb [w.heap.size + 2] W W' → J s W') →
      (∀ pre x rest W1, xs = pre ++ x :: rest → J pre W1 → w.heap.size + 3 ≤ W1.heap.size → YieldAt F (n - 1 - 1) P l (encs x) W1 fun e W' => e = .returned (.bool true) ∧ J (pre ++ [x]) W' ∧ KpZ Z W1 W') →
      ∀ W, Ext w W → W.heap.size = w.heap.size + 2 → J [] W → CallsIn F (n - 1) P gf (#[.func (.yield l) #[] #[]] ++ lb) W fun e W' => (∃ v, e = .returned v) ∧ J xs W')
    (a₁ : α → Act)
    (hassign : ∀ (l : Nat) (x : α) (W : World) (K : Act → World → Prop), K (a₁ x) W →
      assign.wpIn (F.inRound l) (n - 1 - 1) P (Exit.then K (fun _ _ _ => False)) { tmps := (ps.zip (encs x)).foldl (fun t (p, v) => t.setIfInBounds p v) a.tmps, defers := [] } W)
    (hbody : ∀ (l : Nat) (pre : List α) (x : α) (rest : List α) (W : World), xs = pre ++ x :: rest → I pre W → w.heap.size + 3 ≤ W.heap.size → body.wpIn (F.inRound l) (n - 1 - 1) P (fun e _ W' => e = .normal ∧ KpZ Z W W' ∧ I (pre ++ [x]) W') (a₁ x) W)
    (hdone : ∀ W, I xs W → w.heap.size + 2 ≤ W.heap.size → W.heap[w.heap.size]? = some (.deferred (some [])) → Q .normal { a with defers := { target := .collected w.heap.size, args := #[] } :: a.defers } W) :
    (Code.rangeFunc g ps assign body).wpIn F n P Q a w := by
  refine wpIn_rangeFunc ?_
  intro fn hfn
  rw [hro]
  obtain ⟨B, hB⟩ : ∃ B, B = w.heap.size := ⟨_, rfl⟩
  obtain ⟨W1, hW1⟩ : ∃ W1, W1 = (w.alloc (.deferred (some []))).alloc (.loop { state := .ready, pending := none, fn, tmps := a.tmps, params := ps, assign, body, defers := w.heap.size }) := ⟨_, rfl⟩
  have hx1 : Ext w W1 := by rw [hW1]; exact ((Ext.refl w).alloc _).alloc _
  have hs1 : W1.heap.size = B + 2 := by rw [hW1]; simp [hB]
  have hL1 : W1.heap[B + 1]? = some (.loop { state := .ready, pending := none, fn, tmps := a.tmps, params := ps, assign, body, defers := w.heap.size }) := by
    rw [hW1, hB]; exact heap_alloc_at _ _ _ (by simp)
  have hD1 : W1.heap[B]? = some (.deferred (some [])) := by
    rw [hW1, hB]
    exact (Below.heap_alloc _ _ _ (by simp)).trans (heap_alloc_at _ _ _ rfl)
  refine ⟨B + 1, [{ target := .collected B, args := #[] }], W1, { target := .fn (.func gf) lb, args := #[.func (.yield (B + 1)) #[] #[]] }, W1, gf, #[.func (.yield (B + 1)) #[] #[]] ++ lb, W1, ?_, ?_, ?_, ?_, fun _ => h1, ?_⟩
  · rw [hW1, hB]; exact run_enterLoop_outer _ _ _ _ _
  · simp only [resolve, hg]
    simp [go_sem]
  · intro f' hf'
    simp [Target.leads] at hf'
    subst hf'
    exact hFg
  · simp [invoke, go_sem, eg]
  · rw [← hB] at hZ hIk hit hbody hdone
    refine (hit (B + 1) (fun s W => I s W ∧ W.heap[B + 1]? = some (.loop { state := .ready, pending := none, fn, tmps := a.tmps, params := ps, assign, body, defers := w.heap.size }) ∧ W.heap[B]? = some (.deferred (some [])))
      (fun s W W' hJ hx => ⟨hIx s W W' hJ.1 hx, (Below.block hx _ (Array.getElem?_eq_some_iff.1 hJ.2.1).1).trans hJ.2.1, (Below.block hx _ (Array.getElem?_eq_some_iff.1 hJ.2.2).1).trans hJ.2.2⟩)
      (fun s W W' hJ hk => ⟨hIk s W W' hJ.1 (hk.mono (by simp)), hk.heap (by simp) hJ.2.1, hk.heap (by simp) hJ.2.2⟩) ?_ W1 hx1 hs1 ⟨hIx _ _ _ h0 hx1, hL1, hD1⟩).mono ?_
    · rintro pre x rest W hxs ⟨hi, hl, hk⟩ hsz
      have hlt := (Array.getElem?_eq_some_iff.1 hl).1
      have hy := run_yield (P := P) (args := encs x) hl (hps x)
      refine ⟨fn, _, assign, body, hy, roundIn_of_wpIn hfn (hassign _ x W _ ⟨_, run_beginRound hl rfl, ?_⟩)⟩
      have hl2 := World.putObj_heap_same (w := W) (o := .loop { state := .busy, pending := none, fn, tmps := a.tmps, params := ps, assign, body, defers := w.heap.size }) hlt
      have hk2 := (World.putObj_heap_other (w := W) (r := B + 1) (k := B) (o := .loop { state := .busy, pending := none, fn, tmps := a.tmps, params := ps, assign, body, defers := w.heap.size }) (by omega)).trans hk
      have hp2 := kb_putObj W (B + 1) (.loop { state := .busy, pending := none, fn, tmps := a.tmps, params := ps, assign, body, defers := w.heap.size })
      refine wpIn_mono (hbody _ pre x rest _ hxs (hIk _ _ _ hi (hp2.mono (by simp))) (Nat.le_trans hsz hp2.size)) ?_
      rintro e a3 W3 ⟨rfl, hkz, hi3⟩
      have hl3 := (hkz.2 (B + 1) hZ.2 (Nat.lt_of_lt_of_le hlt hp2.size)).trans hl2
      have hk3 := (hkz.2 B hZ.1 (Nat.lt_of_lt_of_le (Array.getElem?_eq_some_iff.1 hk).1 hp2.size)).trans hk2
      have hp4 := kb_putObj W3 (B + 1) (.loop { state := .ready, pending := none, fn, tmps := a.tmps, params := ps, assign, body, defers := w.heap.size })
      have hl4 := World.putObj_heap_same (w := W3) (o := .loop { state := .ready, pending := none, fn, tmps := a.tmps, params := ps, assign, body, defers := w.heap.size }) (Array.getElem?_eq_some_iff.1 hl3).1
      refine ⟨_, _, run_endRound none hl3, rfl, ⟨hIk _ _ _ hi3 (hp4.mono (by simp)), hl4, (World.putObj_heap_other (by omega)).trans hk3⟩, Nat.le_trans hp2.size (Nat.le_trans hkz.1 hp4.size), fun k hzk hkl => ?_⟩
      by_cases e : k = B + 1
      · subst e
        exact hl4.trans hl.symm
      · exact (hp4.block k (Nat.lt_of_lt_of_le hkl (Nat.le_trans hp2.size hkz.1)) (by simpa using e)).trans ((hkz.2 k hzk (Nat.lt_of_lt_of_le hkl hp2.size)).trans (hp2.block k hkl (by simpa using e)))
    · rintro e W2 ⟨⟨v, rfl⟩, hi, hl, hk⟩
      have hp2 := kb_putObj W2 (B + 1) (.loop { state := .exhausted, pending := none, fn, tmps := a.tmps, params := ps, assign, body, defers := w.heap.size })
      exact ⟨none, _, run_endLoop hl (by simp), hdone _ (hIk _ _ _ hi (hp2.mono (by simp))) (Nat.le_trans (by have := (Array.getElem?_eq_some_iff.1 hl).1; omega) hp2.size) ((World.putObj_heap_other (by omega)).trans hk)⟩
end Go.Proofs.Ytmommjagndadjaa
namespace Go.Proofs.Ytmommjagndadjaa.Sc
open Go.RowKit Go.Proofs.Ytmommjagndadjaa
set_option linter.unusedSimpArgs false
set_option linter.unusedVariables false
set_option maxRecDepth 100000

theorem methLen (a : Addr) (w : World) : (method 265 87 (.pointer (some a)) "Len").run Try.prog w = .ok (42, .pointer (some a)) w := by kernel_rfl
theorem reachLen {w : World} {L : Nat} {v : Value} (_ : w.cell? ⟨L, 0, none⟩ = some v) : (method 265 87 (.pointer (some ⟨L, 0, none⟩)) "Len").run Try.prog w = .ok (42, .pointer (some ⟨L, 0, none⟩)) w := methLen _ w
theorem methLess (a : Addr) (w : World) : (method 265 87 (.pointer (some a)) "Less").run Try.prog w = .ok (124, .pointer (some a)) w := by kernel_rfl
theorem reachLess {w : World} {L : Nat} {v : Value} (_ : w.cell? ⟨L, 0, none⟩ = some v) : (method 265 87 (.pointer (some ⟨L, 0, none⟩)) "Less").run Try.prog w = .ok (124, .pointer (some ⟨L, 0, none⟩)) w := methLess _ w
theorem methSwap (a : Addr) (w : World) : (method 265 87 (.pointer (some a)) "Swap").run Try.prog w = .ok (127, .pointer (some a)) w := by kernel_rfl
theorem reachSwap {w : World} {L : Nat} {v : Value} (_ : w.cell? ⟨L, 0, none⟩ = some v) : (method 265 87 (.pointer (some ⟨L, 0, none⟩)) "Swap").run Try.prog w = .ok (127, .pointer (some ⟨L, 0, none⟩)) w := methSwap _ w
theorem methPush (a : Addr) (w : World) : (method 265 87 (.pointer (some a)) "Push").run Try.prog w = .ok (126, .pointer (some a)) w := by kernel_rfl
theorem methPop (a : Addr) (w : World) : (method 265 87 (.pointer (some a)) "Pop").run Try.prog w = .ok (125, .pointer (some a)) w := by kernel_rfl
/-- Places: their block, their numbers in a row of their own. -/
structure PLs (w : World) (base L : Nat) (l : List Int) : Prop where
  ex : ∃ v, w.heap[L]? = some (.cells #[v] 89 (0, 0)) ∧ w.ownsRow base 3 1 v l.length (i64s l) ∧ ∀ b, v.ownBlock = some b → b ≠ L
  lo : base ≤ L
section
variable {w w' w1 : World} {base L : Nat} {l l' : List Int}
theorem PLs.lt (h : PLs w base L l) : L < w.heap.size := by
  obtain ⟨v, h1, -⟩ := h.ex
  exact (Array.getElem?_eq_some_iff.1 h1).1
theorem PLs.next (h : PLs w base L l) (hx : Ext w w') : PLs w' base L l := by
  obtain ⟨v, h1, h2, h3⟩ := h.ex
  exact ⟨⟨v, ext_block hx h1, ownsRow_ext h2 hx, h3⟩, h.lo⟩
theorem PLs.tb (h : PLs w base L l) {k : Nat} (hk : TbO L w k) : base ≤ k ∧ k < w.heap.size := by
  obtain ⟨v, h1, h2, h3⟩ := h.ex
  rcases hk with rfl | ⟨j, u, h4, h5⟩
  · exact ⟨h.lo, h.lt⟩
  · rw [cell_of_row w L j _ _ (0, 0) h1] at h4
    cases j with
    | zero =>
      simp at h4
      subst h4
      exact h2.lt k h5
    | succ j => simp at h4
theorem PLs.same (h : PLs w base L l) (hx : Ext w w') {k : Nat} (hk : TbO L w' k) : TbO L w k := by
  rcases hk with rfl | ⟨j, v, h1, h2⟩
  · exact .inl rfl
  · exact .inr ⟨j, v, by rw [← hx.cells L j h.lt]; exact h1, h2⟩
/-- The value that the places' block holds, put anew. -/
theorem PLs.put (h : PLs w base L l) {v v' : Value} (hv : w.heap[L]? = some (.cells #[v] 89 (0, 0))) (hvo : ∀ b, v.ownBlock = some b → b ≠ L) (hk : Kb v.ownBlock.toList w w1) (ho : w1.ownsRow base 3 1 v' l'.length (i64s l')) (hat : v'.ownBlock = v.ownBlock ∨ ∃ g, v'.ownBlock = some g ∧ w.heap.size ≤ g) :
    PLs (w1.setCell ⟨L, 0, none⟩ v') base L l' ∧ Kt (TbO L) w (w1.setCell ⟨L, 0, none⟩ v') := by
  have hL : L ∉ v.ownBlock.toList := fun e => hvo L (Option.mem_toList.1 e) rfl
  have h1 := hk.heap hL hv
  have h2 : (w1.setCell ⟨L, 0, none⟩ v').heap[L]? = some (.cells #[v'] 89 (0, 0)) := by
    have := heap_setCell_same w1 L 0 _ _ v' h1
    simpa using this
  have hks : Kb [L] w1 (w1.setCell ⟨L, 0, none⟩ v') := Kb.set _ _ _ (by simp) _
  have hnL : ∀ b, v'.ownBlock = some b → b ≠ L := fun b hb => by
    rcases hat with e | ⟨g, e, hg⟩
    · exact hvo b (e ▸ hb)
    · rw [e] at hb
      have := h.lt
      simp at hb
      omega
  refine ⟨⟨⟨v', h2, hks.row ho (fun g hg e => ?_), hnL⟩, h.lo⟩, ⟨hk.os, hk.tape, hk.output, by simpa using hk.size, fun k hk1 hn => ?_, fun k hk1 hb => ?_⟩⟩
  · simp at hg
    exact hnL g e hg
  · have h3 : k ≠ L := fun e => hn (.inl e)
    rw [hks.block k (Nat.lt_of_lt_of_le hk1 hk.size) (by simpa using h3)]
    refine hk.block k hk1 (fun e => hn (.inr ⟨0, v, by rw [cell_of_row w L 0 _ _ (0, 0) hv]; rfl, Option.mem_toList.1 e⟩))
  · rcases hb with rfl | ⟨j, u, h3, h4⟩
    · exact .inl rfl
    · rw [cell_of_row _ L j _ _ (0, 0) h2] at h3
      cases j with
      | succ j => simp at h3
      | zero =>
        simp at h3
        subst h3
        rcases hat with e1 | ⟨g, e1, hg⟩
        · exact .inr ⟨0, v, by rw [cell_of_row w L 0 _ _ (0, 0) hv]; rfl, e1 ▸ h4⟩
        · rw [e1] at h4
          simp at h4
          omega
end
set_option maxHeartbeats 4000000 in
theorem PLs.len {w : World} {base L : Nat} {l : List Int} (h : PLs w base L l) : ∃ v, w.cell? ⟨L, 0, none⟩ = some v ∧ Calls Try.prog 42 #[.pointer (some ⟨L, 0, none⟩)] w (fun e w' => e = .returned (.int .i64 (l.length : Int)) ∧ w' = w) := by
  obtain ⟨v, h1, h2, h3⟩ := h.ex
  obtain ⟨va, vc, rfl⟩ := own_n h2
  have dL : w.cell? ⟨L, 0, none⟩ = some (.slice va l.length vc) := by rw [cell_of_row w L 0 _ _ (0, 0) h1]; rfl
  have lL := h.lt
  obtain ⟨n, hn⟩ : ∃ n, n = l.length := ⟨_, rfl⟩
  refine ⟨_, dL, ?_⟩
  rw [← hn] at dL ⊢
  clear h h1 h2 h3 hn
  go_enter Try.func42, Try.ntmps42
  go_wp2
  try go_ret
  exact ⟨rfl, rfl⟩
set_option maxHeartbeats 4000000 in
theorem PLs.less {w : World} {base L : Nat} {l : List Int} (h : PLs w base L l) {i j : Nat} (hi : i < l.length) (hj : j < l.length) (hn : l.length ≤ 1000000000000) : ∃ v, w.cell? ⟨L, 0, none⟩ = some v ∧ Calls Try.prog 124 #[.pointer (some ⟨L, 0, none⟩), .int .i64 (i : Int), .int .i64 (j : Int)] w (RetX (decide (l.getD i 0 < l.getD j 0)) w) := by
  obtain ⟨v, h1, ho, h3⟩ := h.ex
  obtain ⟨g, cap, rfl, hb, hc, hg⟩ := ownsRow_some ho (by omega)
  have dL : w.cell? ⟨L, 0, none⟩ = some (.slice (some ⟨g, 0, none⟩) l.length cap) := by rw [cell_of_row w L 0 _ _ (0, 0) h1]; rfl
  have lL := h.lt
  refine ⟨_, dL, ?_⟩
  have ci := (own_cell1 ho i _ (i64s_at hi)).1
  have cj := (own_cell1 ho j _ (i64s_at hj)).1
  obtain ⟨x, hx⟩ : ∃ x, x = l.getD i 0 := ⟨_, rfl⟩
  obtain ⟨y, hy⟩ : ∃ y, y = l.getD j 0 := ⟨_, rfl⟩
  rw [← hx] at ci ⊢
  rw [← hy] at cj ⊢
  obtain ⟨n, hnl⟩ : ∃ n, n = l.length := ⟨_, rfl⟩
  rw [← hnl] at dL hi hj hn hc
  have ci2 : w.cell? ⟨g, 0 + i, none⟩ = some (.int .i64 x) := by rw [Nat.zero_add]; exact ci
  have cj2 : w.cell? ⟨g, 0 + j, none⟩ = some (.int .i64 y) := by rw [Nat.zero_add]; exact cj
  have hgl := World.block_lt_of_cell? w _ ci
  have hic : i < cap := by omega
  have hjc : j < cap := by omega
  clear ho hx hy h h1 h3 hnl hb hc hg
  go_enter Try.func124, Try.ntmps124
  go_wp2
  (refine region_drew (by kernel_rfl) (by kernel_rfl) ?_; (repeat (go_big_quiet_step (fail))); refine wpQuiet_nil ?_; rintro _ ⟨nq, rfl⟩)
  go_wp2
  try go_ret
  exact ⟨rfl, Lib.hid ((Ext.refl w).drewN _)⟩
set_option maxHeartbeats 8000000 in
/-- Two places are changed round. -/
theorem PLs.swap {w : World} {base L : Nat} {l : List Int} (h : PLs w base L l) {i j : Nat} (hi : i < l.length) (hj : j < l.length) (hn : l.length ≤ 1000000000000) : ∃ v, w.cell? ⟨L, 0, none⟩ = some v ∧ Calls Try.prog 127 #[.pointer (some ⟨L, 0, none⟩), .int .i64 (i : Int), .int .i64 (j : Int)] w (RetN (TbO L) (fun w' => PLs w' base L (swapV l i j)) w) := by
  obtain ⟨v, h1, ho, h3⟩ := h.ex
  obtain ⟨g, cap, rfl, hb, hc, hg⟩ := ownsRow_some ho (by omega)
  have dL : w.cell? ⟨L, 0, none⟩ = some (.slice (some ⟨g, 0, none⟩) l.length cap) := by rw [cell_of_row w L 0 _ _ (0, 0) h1]; rfl
  have lL := h.lt
  refine ⟨_, dL, ?_⟩
  obtain ⟨Q, hQ⟩ : ∃ Q, Q = RetN (TbO L) (fun w' => PLs w' base L (swapV l i j)) w := ⟨_, rfl⟩
  rw [← hQ]
  have HQ := Lib.hid hQ
  have HP := Lib.hid (And.intro h (And.intro h1 h3))
  obtain ⟨ci, fi⟩ := own_cell1 ho i _ (i64s_at hi)
  obtain ⟨cj, fj⟩ := own_cell1 ho j _ (i64s_at hj)
  obtain ⟨x, hx⟩ : ∃ x, x = l.getD i 0 := ⟨_, rfl⟩
  obtain ⟨y, hy⟩ : ∃ y, y = l.getD j 0 := ⟨_, rfl⟩
  have HE : Hid (swapV l i j = (l.set i y).set j x) := Lib.hid (by unfold swapV; rw [hx, hy])
  rw [← hx] at ci
  rw [← hy] at cj
  obtain ⟨n, hnl⟩ : ∃ n, n = l.length := ⟨_, rfl⟩
  have HO := Lib.hid (And.intro ho hnl)
  rw [← hnl] at dL hi hj hn hc
  have hgl := World.block_lt_of_cell? w _ ci
  have cj2 : ∀ m, ∃ u, ((w.drewN m).setCell ⟨g, i, none⟩ (.int .i64 y)).cell? ⟨g, j, none⟩ = some u := fun m => cell?_setCell_some (w := w.drewN m) (p := ⟨g, i, none⟩) (x := .int .i64 y) (q := ⟨g, j, none⟩) (((Ext.refl w).drewN m).cell cj)
  have hic : i < cap := by omega
  have hjc : j < cap := by omega
  clear ho hx hy hQ h h1 h3 hnl hb hc hg
  go_enter Try.func127, Try.ntmps127
  refine wp_region_noPanic ?_
  refine hu_begin (late := fun k => k == 25) (S := fun w' => w'.cell? ⟨L, 0, none⟩ = some (.slice (some ⟨g, 0, none⟩) n cap) ∧ w'.cell? ⟨g, i, none⟩ = some (.int .i64 x) ∧ w'.cell? ⟨g, j, none⟩ = some (.int .i64 y)) 26 (by kernel_rfl) (by kernel_rfl) ⟨dL, ci, cj⟩ (fun hHeld => ?_)
  refine hu_still (i := 0) (v := .pointer (some ⟨L, 0, none⟩)) rfl (by kernel_rfl) (by kernel_rfl) (fun _ _ _ h => h) (Or.inl ⟨by rfl, fun w' => by go_simp⟩) ?_
  try simp only [Act.put, List.setIfInBounds_toArray, List.set_cons_zero, List.set_cons_succ]
  refine hu_still (i := 1) (v := .pointer (some ⟨L, 0, none⟩)) rfl (by kernel_rfl) (by kernel_rfl) (fun _ _ _ h => h) (Or.inl ⟨by rfl, fun w' => by go_simp⟩) ?_
  try simp only [Act.put, List.setIfInBounds_toArray, List.set_cons_zero, List.set_cons_succ]
  refine hu_still (i := 2) (v := .pointer (some ⟨L, 0, none⟩)) rfl (by kernel_rfl) (by kernel_rfl) (fun _ _ _ h => h) (Or.inl ⟨by rfl, fun w' => by go_simp⟩) ?_
  try simp only [Act.put, List.setIfInBounds_toArray, List.set_cons_zero, List.set_cons_succ]
  refine hu_take (i := 3) (v := .slice (some ⟨g, 0, none⟩) n cap) rfl (by kernel_rfl) (by kernel_rfl) (fun _ _ _ h => h) (Or.inl ⟨by rfl, fun w' hSw => by ((try dsimp only at hSw); go_simp)⟩) hHeld ?_
  try simp only [Act.put, List.setIfInBounds_toArray, List.set_cons_zero, List.set_cons_succ]
  refine hu_still (i := 5) (v := .pointer (some ⟨L, 0, none⟩)) rfl (by kernel_rfl) (by kernel_rfl) (fun _ _ _ h => h) (Or.inl ⟨by rfl, fun w' => by go_simp⟩) ?_
  try simp only [Act.put, List.setIfInBounds_toArray, List.set_cons_zero, List.set_cons_succ]
  refine hu_still (i := 6) (v := .pointer (some ⟨L, 0, none⟩)) rfl (by kernel_rfl) (by kernel_rfl) (fun _ _ _ h => h) (Or.inl ⟨by rfl, fun w' => by go_simp⟩) ?_
  try simp only [Act.put, List.setIfInBounds_toArray, List.set_cons_zero, List.set_cons_succ]
  refine hu_still (i := 7) (v := .pointer (some ⟨L, 0, none⟩)) rfl (by kernel_rfl) (by kernel_rfl) (fun _ _ _ h => h) (Or.inl ⟨by rfl, fun w' => by go_simp⟩) ?_
  try simp only [Act.put, List.setIfInBounds_toArray, List.set_cons_zero, List.set_cons_succ]
  refine hu_take (i := 8) (v := .slice (some ⟨g, 0, none⟩) n cap) rfl (by kernel_rfl) (by kernel_rfl) (fun _ _ _ h => h) (Or.inl ⟨by rfl, fun w' hSw => by ((try dsimp only at hSw); go_simp)⟩) hHeld ?_
  try simp only [Act.put, List.setIfInBounds_toArray, List.set_cons_zero, List.set_cons_succ]
  refine hu_still (i := 10) (v := .pointer (some ⟨L, 0, none⟩)) rfl (by kernel_rfl) (by kernel_rfl) (fun _ _ _ h => h) (Or.inl ⟨by rfl, fun w' => by go_simp⟩) ?_
  try simp only [Act.put, List.setIfInBounds_toArray, List.set_cons_zero, List.set_cons_succ]
  refine hu_still (i := 11) (v := .pointer (some ⟨L, 0, none⟩)) rfl (by kernel_rfl) (by kernel_rfl) (fun _ _ _ h => h) (Or.inl ⟨by rfl, fun w' => by go_simp⟩) ?_
  try simp only [Act.put, List.setIfInBounds_toArray, List.set_cons_zero, List.set_cons_succ]
  refine hu_still (i := 12) (v := .pointer (some ⟨L, 0, none⟩)) rfl (by kernel_rfl) (by kernel_rfl) (fun _ _ _ h => h) (Or.inl ⟨by rfl, fun w' => by go_simp⟩) ?_
  try simp only [Act.put, List.setIfInBounds_toArray, List.set_cons_zero, List.set_cons_succ]
  refine hu_take (i := 13) (v := .slice (some ⟨g, 0, none⟩) n cap) rfl (by kernel_rfl) (by kernel_rfl) (fun _ _ _ h => h) (Or.inl ⟨by rfl, fun w' hSw => by ((try dsimp only at hSw); go_simp)⟩) hHeld ?_
  try simp only [Act.put, List.setIfInBounds_toArray, List.set_cons_zero, List.set_cons_succ]
  refine hu_still (i := 17) (v := .pointer (some ⟨L, 0, none⟩)) rfl (by kernel_rfl) (by kernel_rfl) (fun _ _ _ h => h) (Or.inl ⟨by rfl, fun w' => by go_simp⟩) ?_
  try simp only [Act.put, List.setIfInBounds_toArray, List.set_cons_zero, List.set_cons_succ]
  refine hu_still (i := 18) (v := .pointer (some ⟨L, 0, none⟩)) rfl (by kernel_rfl) (by kernel_rfl) (fun _ _ _ h => h) (Or.inl ⟨by rfl, fun w' => by go_simp⟩) ?_
  try simp only [Act.put, List.setIfInBounds_toArray, List.set_cons_zero, List.set_cons_succ]
  refine hu_still (i := 19) (v := .pointer (some ⟨L, 0, none⟩)) rfl (by kernel_rfl) (by kernel_rfl) (fun _ _ _ h => h) (Or.inl ⟨by rfl, fun w' => by go_simp⟩) ?_
  try simp only [Act.put, List.setIfInBounds_toArray, List.set_cons_zero, List.set_cons_succ]
  refine hu_take (i := 20) (v := .slice (some ⟨g, 0, none⟩) n cap) rfl (by kernel_rfl) (by kernel_rfl) (fun _ _ _ h => h) (Or.inl ⟨by rfl, fun w' hSw => by ((try dsimp only at hSw); go_simp)⟩) hHeld ?_
  try simp only [Act.put, List.setIfInBounds_toArray, List.set_cons_zero, List.set_cons_succ]
  refine hu_still (i := 4) (v := .int .i64 (i : Int)) rfl (by kernel_rfl) (by kernel_rfl) (fun _ _ _ h => h) (Or.inl ⟨by rfl, fun w' => by go_simp⟩) ?_
  try simp only [Act.put, List.setIfInBounds_toArray, List.set_cons_zero, List.set_cons_succ]
  refine hu_still (i := 9) (v := .int .i64 (j : Int)) rfl (by kernel_rfl) (by kernel_rfl) (fun _ _ _ h => h) (Or.inl ⟨by rfl, fun w' => by go_simp⟩) ?_
  try simp only [Act.put, List.setIfInBounds_toArray, List.set_cons_zero, List.set_cons_succ]
  refine hu_still (i := 14) (v := .int .i64 (j : Int)) rfl (by kernel_rfl) (by kernel_rfl) (fun _ _ _ h => h) (Or.inl ⟨by rfl, fun w' => by go_simp⟩) ?_
  try simp only [Act.put, List.setIfInBounds_toArray, List.set_cons_zero, List.set_cons_succ]
  refine hu_still (i := 21) (v := .int .i64 (i : Int)) rfl (by kernel_rfl) (by kernel_rfl) (fun _ _ _ h => h) (Or.inl ⟨by rfl, fun w' => by go_simp⟩) ?_
  try simp only [Act.put, List.setIfInBounds_toArray, List.set_cons_zero, List.set_cons_succ]
  refine hu_still (i := 15) (v := .pointer (some ⟨g, j, none⟩)) rfl (by kernel_rfl) (by kernel_rfl) (fun _ _ _ h => h) (Or.inl ⟨by rfl, fun w' => by go_simp⟩) ?_
  try simp only [Act.put, List.setIfInBounds_toArray, List.set_cons_zero, List.set_cons_succ]
  refine hu_still (i := 22) (v := .pointer (some ⟨g, i, none⟩)) rfl (by kernel_rfl) (by kernel_rfl) (fun _ _ _ h => h) (Or.inl ⟨by rfl, fun w' => by go_simp⟩) ?_
  try simp only [Act.put, List.setIfInBounds_toArray, List.set_cons_zero, List.set_cons_succ]
  refine hu_take (i := 16) (v := .int .i64 y) rfl (by kernel_rfl) (by kernel_rfl) (fun _ _ _ h => h) (Or.inl ⟨by rfl, fun w' hSw => by ((try dsimp only at hSw); go_simp)⟩) hHeld ?_
  try simp only [Act.put, List.setIfInBounds_toArray, List.set_cons_zero, List.set_cons_succ]
  refine hu_take (i := 23) (v := .int .i64 x) rfl (by kernel_rfl) (by kernel_rfl) (fun _ _ _ h => h) (Or.inl ⟨by rfl, fun w' hSw => by ((try dsimp only at hSw); go_simp)⟩) hHeld ?_
  try simp only [Act.put, List.setIfInBounds_toArray, List.set_cons_zero, List.set_cons_succ]
  refine hu_still (i := 24) (v := .pointer (some ⟨g, i, none⟩)) rfl (by kernel_rfl) (by kernel_rfl) (fun _ _ _ h => h) (Or.inl ⟨by rfl, fun w' => by go_simp⟩) ?_
  try simp only [Act.put, List.setIfInBounds_toArray, List.set_cons_zero, List.set_cons_succ]
  have HXD := Lib.hid ((Ext.refl w).drew)
  have di := HXD.out.cell ci
  have dj := HXD.out.cell cj
  have dgl := Nat.lt_of_lt_of_le hgl HXD.out.size
  have dfi : w.drew.frozen? ⟨g, i, none⟩ = false := fi
  have dfj : w.drew.frozen? ⟨g, j, none⟩ = false := fj
  clear hHeld
  generalize w.drew = wd at HXD di dj dgl dfi dfj ⊢
  refine hu_one (i := 25) rfl (by kernel_rfl) (by decide) (fun K hK => ?_)
  go_simp
  refine hK.out _ _ (fun h => absurd h (by decide)) ?_
  clear hK K
  try simp only [Act.put, List.setIfInBounds_toArray, List.set_cons_zero, List.set_cons_succ]
  refine hu_end (by kernel_rfl) ?_
  simp only [List.drop_succ_cons, List.drop_zero]
  obtain ⟨v', hy'⟩ : ∃ u, (wd.setCell ⟨g, i, none⟩ (.int .i64 y)).cell? ⟨g, j, none⟩ = some u := cell?_setCell_some (w := wd) (p := ⟨g, i, none⟩) (x := .int .i64 y) (q := ⟨g, j, none⟩) dj
  clear cj2
  go_wp2_with fail
  refine NoPanic.normal ?_
  refine bodyPost_end (results_none rfl _ _ _) rfl ?_
  rw [HQ.out]
  have hg0 := (HP.out.2.2 g rfl)
  have hk : Kb [g] w ((wd.setCell ⟨g, i, none⟩ (.int .i64 y)).setCell ⟨g, j, none⟩ (.int .i64 x)) := ((Kb.of_ext HXD.out).trans (Kb.set _ _ _ (by simp) _)).trans (Kb.set _ _ _ (by simp) _)
  have hil : i < l.length := by rw [← HO.out.2]; exact hi
  have hjl : j < l.length := by rw [← HO.out.2]; exact hj
  have h5 := own_set1 (own_set1 (ownsRow_ext HO.out.1 HXD.out) i hil (.int .i64 y)) j hjl (.int .i64 x)
  rw [i64s_set, i64s_set, ← HE.out] at h5
  have hL := hk.block L lL (by simp; omega)
  refine ⟨rfl, Lib.hid ⟨kt_of_kb hk (fun k hk2 => ?_) hL, ⟨⟨_, by rw [hL]; exact HP.out.2.1, ?_, HP.out.2.2⟩, HP.out.1.lo⟩⟩⟩
  · simp at hk2
    subst hk2
    exact .inr ⟨0, _, by rw [cell_of_row w L 0 _ _ (0, 0) HP.out.2.1]; rfl, rfl⟩
  · have e : (swapV l i j).length = l.length := by simp [swapV]
    rw [e]
    exact h5
set_option maxHeartbeats 8000000 in
theorem ppush_any {w : World} {base L : Nat} {l : List Int} (h : PLs w base L l) (x : Int) (hn : l.length ≤ 1000000000000) (hB : base ≤ w.heap.size) :
    Calls Try.prog 126 #[.pointer (some ⟨L, 0, none⟩), .iface 3 (.int .i64 x)] w (RetN (TbO L) (fun w' => PLs w' base L (l ++ [x])) w) := by
  obtain ⟨Q, hQ⟩ : ∃ Q, Q = RetN (TbO L) (fun w' => PLs w' base L (l ++ [x])) w := ⟨_, rfl⟩
  rw [← hQ]
  have HQ := Lib.hid hQ
  obtain ⟨v, h1, h2, h3⟩ := h.ex
  obtain ⟨va, vm, vc, rfl⟩ := own_slice3 h2
  have HP := Lib.hid (And.intro h (And.intro h1 (And.intro h2 h3)))
  have dL : w.cell? ⟨L, 0, none⟩ = some (.slice va vm vc) := by rw [cell_of_row w L 0 _ _ (0, 0) h1]; rfl
  have lL := h.lt
  have hta := assertInt x
  clear hQ h h1 h2 h3
  go_enter Try.func126, Try.ntmps126
  go_upto_region 0 with fail
  refine wp_region_noPanic ?_
  refine hd_begin (S := fun w' => w'.cell? ⟨L, 0, none⟩ = some (.slice va vm vc)) 11 (by kernel_rfl) (by kernel_rfl) dL (fun hHeld => ?_)
  have hxd : Ext w w.drew := (Ext.refl w).drew
  generalize w.drew = wd at hxd hHeld ⊢
  refine hd_take (i := 0) (v := .pointer (some ⟨L, 0, none⟩)) rfl (by kernel_rfl) (by kernel_rfl) (fun _ _ _ h => h) (Or.inl ⟨by rfl, fun w' hSw => by ((try dsimp only at hSw); go_simp)⟩) hHeld ?_
  try simp only [Act.put, List.setIfInBounds_toArray, List.set_cons_zero, List.set_cons_succ]
  refine hd_take (i := 1) (v := .pointer (some ⟨L, 0, none⟩)) rfl (by kernel_rfl) (by kernel_rfl) (fun _ _ _ h => h) (Or.inl ⟨by rfl, fun w' hSw => by ((try dsimp only at hSw); go_simp)⟩) hHeld ?_
  try simp only [Act.put, List.setIfInBounds_toArray, List.set_cons_zero, List.set_cons_succ]
  refine hd_take (i := 2) (v := .pointer (some ⟨L, 0, none⟩)) rfl (by kernel_rfl) (by kernel_rfl) (fun _ _ _ h => h) (Or.inl ⟨by rfl, fun w' hSw => by ((try dsimp only at hSw); go_simp)⟩) hHeld ?_
  try simp only [Act.put, List.setIfInBounds_toArray, List.set_cons_zero, List.set_cons_succ]
  refine hd_take (i := 3) (v := .pointer (some ⟨L, 0, none⟩)) rfl (by kernel_rfl) (by kernel_rfl) (fun _ _ _ h => h) (Or.inl ⟨by rfl, fun w' hSw => by ((try dsimp only at hSw); go_simp)⟩) hHeld ?_
  try simp only [Act.put, List.setIfInBounds_toArray, List.set_cons_zero, List.set_cons_succ]
  refine hd_take (i := 4) (v := .slice va vm vc) rfl (by kernel_rfl) (by kernel_rfl) (fun _ _ _ h => h) (Or.inl ⟨by rfl, fun w' hSw => by ((try dsimp only at hSw); go_simp)⟩) hHeld ?_
  try simp only [Act.put, List.setIfInBounds_toArray, List.set_cons_zero, List.set_cons_succ]
  refine hd_take (i := 5) (v := .iface 3 (.int .i64 x)) rfl (by kernel_rfl) (by kernel_rfl) (fun _ _ _ h => h) (Or.inl ⟨by rfl, fun w' hSw => by ((try dsimp only at hSw); go_simp)⟩) hHeld ?_
  try simp only [Act.put, List.setIfInBounds_toArray, List.set_cons_zero, List.set_cons_succ]
  refine hd_take (i := 6) (v := .int .i64 x) rfl (by kernel_rfl) (by kernel_rfl) (fun _ _ _ h => h) (Or.inl ⟨by rfl, fun w' hSw => by ((try dsimp only at hSw); go_simp)⟩) hHeld ?_
  try simp only [Act.put, List.setIfInBounds_toArray, List.set_cons_zero, List.set_cons_succ]
  refine hd_one (i := 7) rfl (by kernel_rfl) (by decide) (fun K hK => ?_)
  go_simp
  have hxn : Ext wd (wd.alloc (.cells #[.int .i64 x] 3)) := (Ext.refl wd).alloc _
  have hsn : SlC (wd.alloc (.cells #[.int .i64 x] 3)) (.slice (some ⟨wd.heap.size, 0, none⟩) 1 1) 1 [.int .i64 x] := SlC.fresh wd #[.int .i64 x] _ 1 _ rfl (by decide)
  refine hK.out _ _ (hxn.cell hHeld) (fun hHeld => ?_)
  clear hK K
  try simp only [Act.put, List.setIfInBounds_toArray, List.set_cons_zero, List.set_cons_succ]
  have HXN := Lib.hid (hxd.trans hxn)
  generalize (wd.alloc (.cells #[.int .i64 x] 3)) = wn at hxn hsn HXN hHeld ⊢
  generalize wd.heap.size = N at hsn ⊢
  have hpn := HP.out.1.next HXN.out
  have hon := ownsRow_ext HP.out.2.2.1 HXN.out
  have hvn := ext_block HXN.out HP.out.2.1
  refine hd_one (i := 8) rfl (by kernel_rfl) (by decide) (fun K hK => ?_)
  refine step_append_slc _ rfl (.tmp 8) (.tmp 11) 36 rfl base 3 (.int .i64 0) 1 8 Try.underlying36 infoInt rfl (by decide) (.slice va vm vc) l.length (i64s l) rfl hon _ 1 [.int .i64 x] rfl hsn rfl (by simp [Value.oneCell']) (by unfold maxLen; omega) (by omega) (Nat.le_trans hB HXN.out.size) ?_
  intro v3 w6 hown3 hg3 hat3
  obtain ⟨x9, y9, z9, rfl⟩ := own_slice3 hown3
  have hk6 : Kb (Value.ownBlock (.slice va vm vc)).toList wn w6 := Kb.grown hg3 (fun g hg => Option.mem_toList.2 hg)
  have hLn : L ∉ (Value.ownBlock (.slice va vm vc)).toList := fun e => HP.out.2.2.2 L (Option.mem_toList.1 e) rfl
  refine hK.out _ _ (hk6.cell hLn hHeld) (fun hHeld => ?_)
  clear hK K
  try simp only [Act.put, List.setIfInBounds_toArray, List.set_cons_zero, List.set_cons_succ]
  have lL6 : L < w6.heap.size := Nat.lt_of_lt_of_le hpn.lt hk6.size
  refine hd_one (i := 9) rfl (by kernel_rfl) (by decide) (fun K hK => ?_)
  go_simp
  refine hK.out _ _ hHeld (fun hHeld => ?_)
  clear hK K
  try simp only [Act.put, List.setIfInBounds_toArray, List.set_cons_zero, List.set_cons_succ]
  refine hd_one (i := 10) rfl (by kernel_rfl) (by decide) (fun K hK => ?_)
  go_simp
  refine hK.out _ _ hHeld (fun hHeld => ?_)
  clear hK K
  try simp only [Act.put, List.setIfInBounds_toArray, List.set_cons_zero, List.set_cons_succ]
  refine hd_end (by kernel_rfl) ?_
  simp only [List.drop_succ_cons, List.drop_zero]
  have hput := hpn.put (l' := l ++ [x]) hvn HP.out.2.2.2 hk6 (by rw [show i64s (l ++ [x]) = i64s l ++ [.int .i64 x] by simp [i64s], List.length_append]; exact hown3) (hat3.imp id (fun e => ⟨_, e, Nat.le_refl _⟩))
  have HPUT := Lib.hid hput
  have e2 : w6.frozen? ⟨L, 0, none⟩ = false := frozen_of_row _ _ _ _ _ (hk6.heap hLn hvn)
  have e3 : L < w6.heap.size := Nat.lt_of_lt_of_le hpn.lt hk6.size
  clear hput hk6 hLn hpn hon hvn hown3 hg3 hat3 hsn hxn hxd dL lL hta
  go_wp2_with fail
  refine NoPanic.normal ?_
  refine bodyPost_end (results_none rfl _ _ _) rfl ?_
  rw [HQ.out]
  have hkt : Kt (TbO L) w (w6.setCell ⟨L, 0, none⟩ (.slice x9 y9 z9)) := (Kt.of_ext HXN.out (fun k hk => HP.out.1.same HXN.out hk)).trans HPUT.out.2
  exact ⟨rfl, Lib.hid ⟨hkt, HPUT.out.1⟩⟩
set_option maxHeartbeats 8000000 in
theorem ppop_any {w : World} {base L : Nat} {l : List Int} (h : PLs w base L l) (h0 : 0 < l.length) (hn : l.length ≤ 1000000000000) :
    Calls Try.prog 125 #[.pointer (some ⟨L, 0, none⟩)] w (fun e w' => e = .returned (.iface 3 (.int .i64 (l.getD (l.length - 1) 0))) ∧ Hid (Kt (TbO L) w w' ∧ PLs w' base L (l.take (l.length - 1)))) := by
  obtain ⟨X, hX⟩ : ∃ X, X = l.getD (l.length - 1) 0 := ⟨_, rfl⟩
  rw [← hX]
  obtain ⟨Q, hQ⟩ : ∃ Q : Ending → World → Prop, Q = (fun e w' => e = .returned (.iface 3 (.int .i64 X)) ∧ Hid (Kt (TbO L) w w' ∧ PLs w' base L (l.take (l.length - 1)))) := ⟨_, rfl⟩
  rw [← hQ]
  have HQ := Lib.hid hQ
  obtain ⟨v, h1, h2, h3⟩ := h.ex
  obtain ⟨g, cap, rfl, hb, hc, hg⟩ := ownsRow_some h2 h0
  have HP := Lib.hid (And.intro h (And.intro h1 (And.intro h2 h3)))
  obtain ⟨n, hnl⟩ : ∃ n, n = l.length := ⟨_, rfl⟩
  have dL : w.cell? ⟨L, 0, none⟩ = some (.slice (some ⟨g, 0, none⟩) n cap) := by rw [cell_of_row w L 0 _ _ (0, 0) h1, hnl]; rfl
  have lL := h.lt
  have fL : w.frozen? ⟨L, 0, none⟩ = false := frozen_of_row _ _ _ _ _ h1
  have hcx := (own_cell1 h2 (l.length - 1) _ (i64s_at (by omega))).1
  rw [← hX, ← hnl] at hcx
  rw [← hnl] at hc h0 hn
  obtain ⟨m, hm⟩ : ∃ m, n = m + 1 := ⟨n - 1, by omega⟩
  subst hm
  rw [Nat.add_sub_cancel] at hcx
  have HN := Lib.hid hnl
  have hcb : (cap : Int) ≤ 9223372036854775807 := by
    obtain ⟨a', c', e, -, h5, -⟩ := SlC.of_owns h2
    simp only [Value.slice.injEq] at e
    rw [e.2.2]; unfold maxLen at h5; omega
  have hmc : m < cap := by omega
  have HXX := Lib.hid hX
  clear hQ h h1 h2 h3 hb hX hnl h0 hc
  go_enter Try.func125, Try.ntmps125
  go_wp2
  try go_ret
  rw [HQ.out]
  refine ⟨rfl, Lib.hid ?_⟩
  have h2 := HP.out.2.2.1
  rw [← HN.out] at h2
  have h3 := own_shorter h2 m (by omega)
  have h5 : l.length - 1 = m := by rw [← HN.out]; rfl
  have h4 := HP.out.1.put (l' := l.take m) (v' := .slice (some ⟨g, 0, none⟩) m cap) HP.out.2.1 HP.out.2.2.2 (Kb.refl _ w) (by
    have e1 : (l.take m).length = m := by rw [List.length_take, ← HN.out]; omega
    rw [e1, show i64s (l.take m) = (i64s l).take m by simp [i64s, List.map_take]]
    exact h3) (.inl rfl)
  rw [h5]
  exact ⟨h4.2, h4.1⟩
end Go.Proofs.Ytmommjagndadjaa.Sc
namespace Go.Proofs.Ytmommjagndadjaa.Sc
open Go.RowKit Go.Proofs.Ytmommjagndadjaa
set_option linter.unusedSimpArgs false
set_option linter.unusedVariables false
set_option maxRecDepth 100000

theorem upV_more : ∀ (f g : Nat) (l : List Int) (j : Nat), j < f → j < g → upV f l j = upV g l j
  | 0, _, _, _, h, _ => by omega
  | f + 1, 0, _, _, _, h => by omega
  | f + 1, g + 1, l, j, h1, h2 => by
    rw [upV, upV]
    split
    · rfl
    · rename_i h3
      have h4 : (j - 1) / 2 ≠ j := fun e => h3 (.inl e)
      exact upV_more f g _ _ (by omega) (by omega)
set_option maxHeartbeats 8000000 in
theorem hup_any {w : World} {base L : Nat} {l : List Int} (h : PLs w base L l) (j : Nat) (hj : j < l.length) (hn : l.length ≤ 1000000000000) :
    Calls Try.prog 64 #[.iface 87 (.pointer (some ⟨L, 0, none⟩)), .int .i64 (j : Int)] w (RetN (TbO L) (fun w' => PLs w' base L (upV (j + 1) l j)) w) := by
  obtain ⟨R, hR⟩ : ∃ R, R = upV (j + 1) l j := ⟨_, rfl⟩
  rw [← hR]
  obtain ⟨Q, hQ⟩ : ∃ Q, Q = RetN (TbO L) (fun w' => PLs w' base L R) w := ⟨_, rfl⟩
  rw [← hQ]
  have HQ := Lib.hid hQ
  have HR := Lib.hid hR
  have HP := Lib.hid h
  obtain ⟨n, hnl⟩ : ∃ n, n = l.length := ⟨_, rfl⟩
  rw [← hnl] at hj hn
  have HN := Lib.hid hnl
  clear hQ hR h hnl
  go_enter Try.func64, Try.ntmps64
  go_upto_region 0 with fail
  go_loopw [1] (fun jv wr => ∃ (j' : Nat) (l' : List Int), jv = .int .i64 (j' : Int) ∧ j' < n ∧ Hid (Kt (TbO L) w wr ∧ PLs wr base L l' ∧ l'.length = n) ∧ Hid (R = upV (j' + 1) l' j')) (fun jv _ => (intOf jv).toNat)
  case atStart => exact ⟨j, l, rfl, hj, Lib.hid ⟨Kt.refl _ _, HP.out, HN.out.symm⟩, HR⟩
  case round =>
    obtain ⟨j', l', rfl, hj', HS, HJ⟩ := hrel
    by_cases h0 : j' = 0
    · subst h0
      have HC : Hid (R = l') := Lib.hid (by rw [HJ.out, upV, if_pos (.inl rfl)])
      go_wp2
      refine bodyPost_end (results_none rfl _ _ _) rfl ?_
      rw [HQ.out, HC.out]
      exact ⟨rfl, Lib.hid ⟨HS.out.1, HS.out.2.1⟩⟩
    · have hq : (0 : Int) < (j' : Int) := by omega
      obtain ⟨i, hi⟩ : ∃ i, i = (j' - 1) / 2 := ⟨_, rfl⟩
      have hiI : ((j' : Int) - 1) / 2 = (i : Int) := by omega
      have hij : i < j' := by omega
      have HII := Lib.hid (And.intro hi hiI)
      clear hi hiI
      go_upto_region 1 with fail
      rw [HII.out.2]
      have hne : ((i : Int) == (j' : Int)) = false := by simp; omega
      have hl' := HS.out.2.2
      obtain ⟨v, hv, hL⟩ := HS.out.2.1.less (i := j') (j := i) (by rw [hl']; exact hj') (by rw [hl']; omega) (by rw [hl']; exact hn)
      have hm1 := reachLess hv
      obtain ⟨b, hb⟩ : ∃ b, b = decide (l'.getD j' 0 < l'.getD i 0) := ⟨_, rfl⟩
      rw [← hb] at hL
      have HL := Lib.hid hL
      have HB := Lib.hid hb
      clear hL hb hl'
      cases b with
      | false =>
        have HC : Hid (R = l') := Lib.hid (by
          have hnl : ¬ l'.getD j' 0 < l'.getD i 0 := fun e => by
            have h1 := HB.out
            rw [decide_eq_true e] at h1
            cases h1
          rw [HJ.out, upV, ← HII.out.1, if_pos (.inr hnl)])
        go_wp2_with (first | (go_at_call 124; refine HL.out.mono ?_; rintro e1 w2 ⟨rfl, H2⟩) | fail)
        refine bodyPost_end (results_none rfl _ _ _) rfl ?_
        rw [HQ.out, HC.out]
        exact ⟨rfl, Lib.hid ⟨HS.out.1.trans (Kt.of_ext H2.out (fun k hk => HS.out.2.1.same H2.out hk)), HS.out.2.1.next H2.out⟩⟩
      | true =>
        have HC : Hid (R = upV (i + 1) (swapV l' i j') i) := Lib.hid (by
          rw [HJ.out, upV, ← HII.out.1, if_neg ?_]
          · exact upV_more _ _ _ _ (by omega) (by omega)
          · rintro (e | e)
            · omega
            · have h1 := HB.out
              rw [decide_eq_false e] at h1
              cases h1)
        go_upto_region 2 with (first | (go_at_call 124; refine HL.out.mono ?_; rintro e1 w2 ⟨rfl, H2⟩) | fail)
        clear hm1
        have hl' := HS.out.2.2
        have hp2 := HS.out.2.1.next H2.out
        obtain ⟨v2, hv2, hS2⟩ := hp2.swap (i := i) (j := j') (by rw [hl']; omega) (by rw [hl']; exact hj') (by rw [hl']; exact hn)
        have hm2 := reachSwap hv2
        have HS2 := Lib.hid hS2
        clear hS2 hp2 hl'
        go_wp2_with (first | (go_at_call 127; refine HS2.out.mono ?_; rintro e3 w3 ⟨rfl, H3⟩) | fail)
        exact ⟨⟨i, swapV l' i j', rfl, by omega, Lib.hid ⟨(HS.out.1.trans (Kt.of_ext H2.out (fun k hk => HS.out.2.1.same H2.out hk))).trans H3.out.1, H3.out.2, by rw [← HS.out.2.2]; simp [swapV]⟩, HC⟩, by simp [intOf]; omega⟩
end Go.Proofs.Ytmommjagndadjaa.Sc
namespace Go.Proofs.Ytmommjagndadjaa.Sc
open Go.RowKit Go.Proofs.Ytmommjagndadjaa
set_option linter.unusedSimpArgs false
set_option linter.unusedVariables false
set_option maxRecDepth 100000

def downJ (l : List Int) (i n : Nat) : Nat := if 2 * i + 2 < n ∧ l.getD (2 * i + 2) 0 < l.getD (2 * i + 1) 0 then 2 * i + 2 else 2 * i + 1
/-- A step downwards, the place below known. -/
def downF (f : Nat) (l : List Int) (i j n : Nat) : List Int := if l.getD j 0 < l.getD i 0 then downV f (swapV l i j) j n else l
theorem downV_eq (f : Nat) (l : List Int) (i n : Nat) (h : ¬ n ≤ 2 * i + 1) : downV (f + 1) l i n = downF f l i (downJ l i n) n := by rw [downV, if_neg h]; rfl
theorem downV_end (f : Nat) (l : List Int) (i n : Nat) (h : n ≤ 2 * i + 1) : downV f l i n = l := by
  cases f with
  | zero => rfl
  | succ f => rw [downV, if_pos h]
theorem downV_more : ∀ (f g : Nat) (l : List Int) (i n : Nat), n ≤ i + f → n ≤ i + g → downV f l i n = downV g l i n
  | 0, g, l, i, n, h, _ => by rw [downV_end 0 l i n (by omega), downV_end g l i n (by omega)]
  | f + 1, 0, l, i, n, _, h => by rw [downV_end _ l i n (by omega), downV_end 0 l i n (by omega)]
  | f + 1, g + 1, l, i, n, h1, h2 => by
    by_cases h : n ≤ 2 * i + 1
    · rw [downV_end _ l i n h, downV_end _ l i n h]
    · rw [downV_eq _ _ _ _ h, downV_eq _ _ _ _ h]
      unfold downF
      have hj : i + 1 ≤ downJ l i n := by unfold downJ; split <;> omega
      rw [downV_more f g _ (downJ l i n) n (by omega) (by omega)]
theorem downF_no {f : Nat} {l : List Int} {i j n : Nat} (h : decide (l.getD j 0 < l.getD i 0) = false) : downF f l i j n = l := by
  unfold downF; rw [if_neg (of_decide_eq_false h)]
theorem downF_yes {f g : Nat} {l : List Int} {i j n : Nat} (h : decide (l.getD j 0 < l.getD i 0) = true) (h1 : n ≤ j + f) (h2 : n ≤ j + g) : downF f l i j n = downV g (swapV l i j) j n := by
  unfold downF; rw [if_pos (of_decide_eq_true h)]
  exact downV_more _ _ _ _ _ h1 h2
theorem downV_len : ∀ (f : Nat) (l : List Int) (i n : Nat), (downV f l i n).length = l.length
  | 0, l, i, n => rfl
  | f + 1, l, i, n => by
    by_cases h : n ≤ 2 * i + 1
    · rw [downV_end _ l i n h]
    · rw [downV_eq _ _ _ _ h]
      unfold downF
      split
      · rw [downV_len f]; simp [swapV]
      · rfl
set_option maxHeartbeats 16000000 in
theorem hdown_any {w : World} {base L : Nat} {l : List Int} (h : PLs w base L l) (i0 n : Nat) (hi0 : i0 ≤ 1000000000000) (hj : n ≤ l.length) (hn : l.length ≤ 1000000000000) :
    Calls Try.prog 65 #[.iface 87 (.pointer (some ⟨L, 0, none⟩)), .int .i64 (i0 : Int), .int .i64 (n : Int)] w (fun e w' => ∃ b, e = .returned (.bool b) ∧ Hid (Kt (TbO L) w w' ∧ PLs w' base L (downV (n - i0) l i0 n))) := by
  obtain ⟨R, hR⟩ : ∃ R, R = downV (n - i0) l i0 n := ⟨_, rfl⟩
  rw [← hR]
  obtain ⟨Q, hQ⟩ : ∃ Q : Ending → World → Prop, Q = (fun e w' => ∃ b, e = .returned (.bool b) ∧ Hid (Kt (TbO L) w w' ∧ PLs w' base L R)) := ⟨_, rfl⟩
  rw [← hQ]
  have HQ := Lib.hid hQ
  have HR := Lib.hid hR
  have HP := Lib.hid h
  obtain ⟨ln, hnl⟩ : ∃ n, n = l.length := ⟨_, rfl⟩
  rw [← hnl] at hj hn
  have HN := Lib.hid hnl
  clear hQ hR h hnl
  go_enter Try.func65, Try.ntmps65
  go_upto_region 2 with fail
  go_loopw [7] (fun iv wr => ∃ (i : Nat) (l' : List Int), iv = .int .i64 (i : Int) ∧ i ≤ 1000000000000 ∧ Hid (Kt (TbO L) w wr ∧ PLs wr base L l' ∧ l'.length = ln) ∧ Hid (R = downV (n - i) l' i n)) (fun iv _ => n - (intOf iv).toNat)
  case atStart => exact ⟨i0, l, rfl, by omega, Lib.hid ⟨Kt.refl _ _, HP.out, HN.out.symm⟩, HR⟩
  case round =>
    obtain ⟨i, l', rfl, hin, HS, HJ⟩ := hrel
    obtain ⟨j1, hj1⟩ : ∃ j, j = 2 * i + 1 := ⟨_, rfl⟩
    obtain ⟨j2, hj2⟩ : ∃ j, j = 2 * i + 2 := ⟨_, rfl⟩
    have HJ1 : Hid (2 * (i : Int) + 1 = (j1 : Int) ∧ (j1 : Int) + 1 = (j2 : Int) ∧ j1 = 2 * i + 1 ∧ j2 = 2 * i + 2) := Lib.hid ⟨by omega, by omega, hj1, hj2⟩
    have hij1 : i < j1 := by omega
    have hij2 : i < j2 := by omega
    clear hj1 hj2
    by_cases hA : n ≤ j1
    · have HC : Hid (R = l') := Lib.hid (by rw [HJ.out]; exact downV_end _ _ _ _ (by have := HJ1.out; omega))
      go_upto_region 3 with fail
      rw [HJ1.out.1]
      have hge : ¬ (j1 : Int) < (n : Int) := by omega
      have hge2 : (n : Int) ≤ (j1 : Int) := by omega
      go_wp2
      try go_ret
      rw [HQ.out, HC.out]
      exact ⟨_, rfl, Lib.hid ⟨HS.out.1, HS.out.2.1⟩⟩
    · have hin2 : i < n := by omega
      have HDV : Hid (R = downF (n - i - 1) l' i (downJ l' i n) n) := Lib.hid (by
        rw [HJ.out, show n - i = (n - i - 1) + 1 by omega]; exact downV_eq _ _ _ _ (by have := HJ1.out; omega))
      go_upto_region 3 with fail
      rw [HJ1.out.1]
      have hge : ¬ (n : Int) ≤ (j1 : Int) := by omega
      have hge2 : (j1 : Int) < (n : Int) := by omega
      have hge3 : ¬ (j1 : Int) < 0 := by omega
      go_upto_region 6 with fail
      try rw [HJ1.out.2.1]
      by_cases hB : j2 < n
      · have hBi : (j2 : Int) < (n : Int) := by omega
        have hl6 := HS.out.2.2
        obtain ⟨v6, hv6, hL6⟩ := HS.out.2.1.less (i := j2) (j := j1) (by rw [hl6]; omega) (by rw [hl6]; omega) (by rw [hl6]; exact hn)
        have hm6 := reachLess hv6
        obtain ⟨b6, hb6⟩ : ∃ b, b = decide (l'.getD j2 0 < l'.getD j1 0) := ⟨_, rfl⟩
        rw [← hb6] at hL6
        have HL6 := Lib.hid hL6
        have HB6 := Lib.hid hb6
        clear hL6 hb6 hl6
        cases b6 with
        | true =>
          have HD : Hid (R = downF (n - i - 1) l' i j2 n) := Lib.hid (by
            have h1 : downJ l' i n = j2 := by
              unfold downJ
              rw [← HJ1.out.2.2.1, ← HJ1.out.2.2.2, if_pos ⟨hB, of_decide_eq_true HB6.out.symm⟩]
            rw [HDV.out, h1])
          go_upto_region 8 with (first | (go_at_call 124; refine HL6.out.mono ?_; rintro e6 w6 ⟨rfl, H6⟩) | fail)
          clear hm6
          have hl8 := HS.out.2.2
          obtain ⟨v8, hv8, hL8⟩ := (HS.out.2.1.next H6.out).less (i := j2) (j := i) (by rw [hl8]; omega) (by rw [hl8]; omega) (by rw [hl8]; exact hn)
          have hm8 := reachLess hv8
          obtain ⟨b8, hb8⟩ : ∃ b, b = decide (l'.getD j2 0 < l'.getD i 0) := ⟨_, rfl⟩
          rw [← hb8] at hL8
          have HL8 := Lib.hid hL8
          have HB8 := Lib.hid hb8
          clear hL8 hb8 hl8
          cases b8 with
          | false =>
            have HC : Hid (R = l') := Lib.hid (by rw [HD.out]; exact downF_no HB8.out.symm)
            go_wp2_with (first | (go_at_call 124; refine HL8.out.mono ?_; rintro e8 w8 ⟨rfl, H8⟩) | fail)
            try go_ret
            rw [HQ.out, HC.out]
            exact ⟨_, rfl, Lib.hid ⟨(HS.out.1.trans (Kt.of_ext H6.out (fun k hk => HS.out.2.1.same H6.out hk))).trans (Kt.of_ext H8.out (fun k hk => (HS.out.2.1.next H6.out).same H8.out hk)), (HS.out.2.1.next H6.out).next H8.out⟩⟩
          | true =>
            have HC : Hid (R = downV (n - j2) (swapV l' i j2) j2 n) := Lib.hid (by rw [HD.out]; exact downF_yes HB8.out.symm (by omega) (by omega))
            go_upto_region 9 with (first | (go_at_call 124; refine HL8.out.mono ?_; rintro e8 w8 ⟨rfl, H8⟩) | fail)
            clear hm8
            have hl9 := HS.out.2.2
            have hp9 := (HS.out.2.1.next H6.out).next H8.out
            obtain ⟨v9, hv9, hS9⟩ := hp9.swap (i := i) (j := j2) (by rw [hl9]; omega) (by rw [hl9]; omega) (by rw [hl9]; exact hn)
            have hm9 := reachSwap hv9
            have HS9 := Lib.hid hS9
            clear hS9 hp9 hl9
            go_wp2_with (first | (go_at_call 127; refine HS9.out.mono ?_; rintro e9 w9 ⟨rfl, H9⟩) | fail)
            exact ⟨⟨j2, swapV l' i j2, rfl, by omega, Lib.hid ⟨((HS.out.1.trans (Kt.of_ext H6.out (fun k hk => HS.out.2.1.same H6.out hk))).trans (Kt.of_ext H8.out (fun k hk => (HS.out.2.1.next H6.out).same H8.out hk))).trans H9.out.1, H9.out.2, by rw [← HS.out.2.2]; simp [swapV]⟩, HC⟩, by simp [intOf]; omega⟩
        | false =>
          have HD : Hid (R = downF (n - i - 1) l' i j1 n) := Lib.hid (by
            have h1 : downJ l' i n = j1 := by
              unfold downJ
              rw [← HJ1.out.2.2.1, ← HJ1.out.2.2.2, if_neg (fun e => of_decide_eq_false HB6.out.symm e.2)]
            rw [HDV.out, h1])
          go_upto_region 8 with (first | (go_at_call 124; refine HL6.out.mono ?_; rintro e6 w6 ⟨rfl, H6⟩) | fail)
          clear hm6
          have hl8 := HS.out.2.2
          obtain ⟨v8, hv8, hL8⟩ := (HS.out.2.1.next H6.out).less (i := j1) (j := i) (by rw [hl8]; omega) (by rw [hl8]; omega) (by rw [hl8]; exact hn)
          have hm8 := reachLess hv8
          obtain ⟨b8, hb8⟩ : ∃ b, b = decide (l'.getD j1 0 < l'.getD i 0) := ⟨_, rfl⟩
          rw [← hb8] at hL8
          have HL8 := Lib.hid hL8
          have HB8 := Lib.hid hb8
          clear hL8 hb8 hl8
          cases b8 with
          | false =>
            have HC : Hid (R = l') := Lib.hid (by rw [HD.out]; exact downF_no HB8.out.symm)
            go_wp2_with (first | (go_at_call 124; refine HL8.out.mono ?_; rintro e8 w8 ⟨rfl, H8⟩) | fail)
            try go_ret
            rw [HQ.out, HC.out]
            exact ⟨_, rfl, Lib.hid ⟨(HS.out.1.trans (Kt.of_ext H6.out (fun k hk => HS.out.2.1.same H6.out hk))).trans (Kt.of_ext H8.out (fun k hk => (HS.out.2.1.next H6.out).same H8.out hk)), (HS.out.2.1.next H6.out).next H8.out⟩⟩
          | true =>
            have HC : Hid (R = downV (n - j1) (swapV l' i j1) j1 n) := Lib.hid (by rw [HD.out]; exact downF_yes HB8.out.symm (by omega) (by omega))
            go_upto_region 9 with (first | (go_at_call 124; refine HL8.out.mono ?_; rintro e8 w8 ⟨rfl, H8⟩) | fail)
            clear hm8
            have hl9 := HS.out.2.2
            have hp9 := (HS.out.2.1.next H6.out).next H8.out
            obtain ⟨v9, hv9, hS9⟩ := hp9.swap (i := i) (j := j1) (by rw [hl9]; omega) (by rw [hl9]; omega) (by rw [hl9]; exact hn)
            have hm9 := reachSwap hv9
            have HS9 := Lib.hid hS9
            clear hS9 hp9 hl9
            go_wp2_with (first | (go_at_call 127; refine HS9.out.mono ?_; rintro e9 w9 ⟨rfl, H9⟩) | fail)
            exact ⟨⟨j1, swapV l' i j1, rfl, by omega, Lib.hid ⟨((HS.out.1.trans (Kt.of_ext H6.out (fun k hk => HS.out.2.1.same H6.out hk))).trans (Kt.of_ext H8.out (fun k hk => (HS.out.2.1.next H6.out).same H8.out hk))).trans H9.out.1, H9.out.2, by rw [← HS.out.2.2]; simp [swapV]⟩, HC⟩, by simp [intOf]; omega⟩
      · have hBi : ¬ (j2 : Int) < (n : Int) := by omega
        have HD : Hid (R = downF (n - i - 1) l' i j1 n) := Lib.hid (by
          have h1 : downJ l' i n = j1 := by
            unfold downJ
            rw [← HJ1.out.2.2.1, ← HJ1.out.2.2.2, if_neg (fun e => hB e.1)]
          rw [HDV.out, h1])
        go_upto_region 8 with fail
        have hl8 := HS.out.2.2
        obtain ⟨v8, hv8, hL8⟩ := (HS.out.2.1).less (i := j1) (j := i) (by rw [hl8]; omega) (by rw [hl8]; omega) (by rw [hl8]; exact hn)
        have hm8 := reachLess hv8
        obtain ⟨b8, hb8⟩ : ∃ b, b = decide (l'.getD j1 0 < l'.getD i 0) := ⟨_, rfl⟩
        rw [← hb8] at hL8
        have HL8 := Lib.hid hL8
        have HB8 := Lib.hid hb8
        clear hL8 hb8 hl8
        cases b8 with
        | false =>
          have HC : Hid (R = l') := Lib.hid (by rw [HD.out]; exact downF_no HB8.out.symm)
          go_wp2_with (first | (go_at_call 124; refine HL8.out.mono ?_; rintro e8 w8 ⟨rfl, H8⟩) | fail)
          try go_ret
          rw [HQ.out, HC.out]
          exact ⟨_, rfl, Lib.hid ⟨(HS.out.1).trans (Kt.of_ext H8.out (fun k hk => (HS.out.2.1).same H8.out hk)), (HS.out.2.1).next H8.out⟩⟩
        | true =>
          have HC : Hid (R = downV (n - j1) (swapV l' i j1) j1 n) := Lib.hid (by rw [HD.out]; exact downF_yes HB8.out.symm (by omega) (by omega))
          go_upto_region 9 with (first | (go_at_call 124; refine HL8.out.mono ?_; rintro e8 w8 ⟨rfl, H8⟩) | fail)
          clear hm8
          have hl9 := HS.out.2.2
          have hp9 := (HS.out.2.1).next H8.out
          obtain ⟨v9, hv9, hS9⟩ := hp9.swap (i := i) (j := j1) (by rw [hl9]; omega) (by rw [hl9]; omega) (by rw [hl9]; exact hn)
          have hm9 := reachSwap hv9
          have HS9 := Lib.hid hS9
          clear hS9 hp9 hl9
          go_wp2_with (first | (go_at_call 127; refine HS9.out.mono ?_; rintro e9 w9 ⟨rfl, H9⟩) | fail)
          exact ⟨⟨j1, swapV l' i j1, rfl, by omega, Lib.hid ⟨((HS.out.1).trans (Kt.of_ext H8.out (fun k hk => (HS.out.2.1).same H8.out hk))).trans H9.out.1, H9.out.2, by rw [← HS.out.2.2]; simp [swapV]⟩, HC⟩, by simp [intOf]; omega⟩
set_option maxHeartbeats 8000000 in
theorem hpush_any {w : World} {base L : Nat} {l : List Int} (h : PLs w base L l) (x : Int) (hn : l.length ≤ 999999999999) (hB : base ≤ w.heap.size) :
    Calls Try.prog 41 #[.iface 87 (.pointer (some ⟨L, 0, none⟩)), .iface 3 (.int .i64 x)] w (RetN (TbO L) (fun w' => PLs w' base L (pushV l x)) w) := by
  obtain ⟨Q, hQ⟩ : ∃ Q, Q = RetN (TbO L) (fun w' => PLs w' base L (pushV l x)) w := ⟨_, rfl⟩
  rw [← hQ]
  have HQ := Lib.hid hQ
  have HP := Lib.hid h
  obtain ⟨n, hnl⟩ : ∃ n, n = l.length := ⟨_, rfl⟩
  have HN := Lib.hid hnl
  have HPU := Lib.hid (ppush_any h x (by omega) hB)
  have hm1 := methPush ⟨L, 0, none⟩ w
  have hnb : n ≤ 999999999999 := by omega
  clear hQ h hn hnl
  go_enter Try.func41, Try.ntmps41
  go_upto_region 1 with (first | (go_at_call 126; refine HPU.out.mono ?_; rintro e1 w1 ⟨rfl, H1⟩) | fail)
  clear hm1
  obtain ⟨v, hv, hL⟩ := H1.out.2.len
  have hm2 := reachLen hv
  have hlen : (l ++ [x]).length = n + 1 := by rw [List.length_append, HN.out]; rfl
  rw [hlen] at hL
  have HL := Lib.hid hL
  have HUP : Hid (Calls Try.prog 64 #[.iface 87 (.pointer (some ⟨L, 0, none⟩)), .int .i64 (n : Int)] w1 (RetN (TbO L) (fun w' => PLs w' base L (pushV l x)) w1)) := Lib.hid (by
    have h1 := hup_any H1.out.2 n (by rw [hlen]; omega) (by rw [hlen]; omega)
    have h2 : pushV l x = upV (n + 1) (l ++ [x]) n := by unfold pushV; rw [HN.out]
    rw [h2]
    exact h1)
  clear hL hlen
  go_wp2_with (first | (go_at_call 42; refine HL.out.mono ?_; rintro e2 w2 ⟨rfl, rfl⟩) | (go_at_call 64; refine HUP.out.mono ?_; rintro e3 w3 ⟨rfl, H3⟩) | fail)
  refine bodyPost_end (results_none rfl _ _ _) rfl ?_
  rw [HQ.out]
  exact ⟨rfl, Lib.hid ⟨H1.out.1.trans H3.out.1, H3.out.2⟩⟩
set_option maxHeartbeats 8000000 in
theorem hpop_any {w : World} {base L : Nat} {l : List Int} (h : PLs w base L l) (h0 : 0 < l.length) (hn : l.length ≤ 1000000000000) :
    Calls Try.prog 43 #[.iface 87 (.pointer (some ⟨L, 0, none⟩))] w (fun e w' => e = .returned (.iface 3 (.int .i64 (popV l).1)) ∧ Hid (Kt (TbO L) w w' ∧ PLs w' base L (popV l).2)) := by
  obtain ⟨n, hnl⟩ : ∃ n, l.length = n + 1 := ⟨l.length - 1, by omega⟩
  obtain ⟨X, hX⟩ : ∃ X, X = (popV l).1 := ⟨_, rfl⟩
  rw [← hX]
  obtain ⟨Q, hQ⟩ : ∃ Q : Ending → World → Prop, Q = (fun e w' => e = .returned (.iface 3 (.int .i64 X)) ∧ Hid (Kt (TbO L) w w' ∧ PLs w' base L (popV l).2)) := ⟨_, rfl⟩
  rw [← hQ]
  have HQ := Lib.hid hQ
  have HP := Lib.hid h
  obtain ⟨v1, hv1, hL1⟩ := h.len
  have hm1 := reachLen hv1
  rw [hnl] at hL1 hn
  have HL1 := Lib.hid hL1
  obtain ⟨v2, hv2, hS2⟩ := h.swap (i := 0) (j := n) (by omega) (by omega) (by omega)
  have hm2 := reachSwap hv2
  have HS2 := Lib.hid hS2
  have HN := Lib.hid hnl
  have HXX : Hid (X = (downV (n + 1) (swapV l 0 n) 0 n).getD n 0 ∧ (popV l).2 = (downV (n + 1) (swapV l 0 n) 0 n).take n) := Lib.hid (by
    rw [hX]
    unfold popV
    rw [hnl]
    exact ⟨rfl, rfl⟩)
  clear hL1 hS2 hX hQ h hnl
  go_enter Try.func43, Try.ntmps43
  go_upto_region 3 with (first | (go_at_call 42; refine HL1.out.mono ?_; rintro e1 w1 ⟨rfl, rfl⟩) | (go_at_call 127; refine HS2.out.mono ?_; rintro e2 w2 ⟨rfl, H2⟩) | fail)
  have hsl : (swapV l 0 n).length = n + 1 := by rw [← HN.out]; simp [swapV]
  have HDN : Hid (Calls Try.prog 65 #[.iface 87 (.pointer (some ⟨L, 0, none⟩)), .int .i64 0, .int .i64 (n : Int)] w2 (fun e w' => ∃ b, e = .returned (.bool b) ∧ Hid (Kt (TbO L) w2 w' ∧ PLs w' base L (downV (n + 1) (swapV l 0 n) 0 n)))) := Lib.hid (by
    have h1 := hdown_any H2.out.2 0 n (by omega) (by rw [hsl]; omega) (by rw [hsl]; omega)
    rw [downV_more (n - 0) (n + 1) _ 0 n (by omega) (by omega)] at h1
    exact h1)
  clear hm1 hm2 hv1 hv2
  go_upto_region 4 with (first | (go_at_call 65; refine HDN.out.mono ?_; rintro e3 w3 ⟨b3, rfl, H3⟩) | fail)
  have hdl : (downV (n + 1) (swapV l 0 n) 0 n).length = n + 1 := by rw [downV_len, hsl]
  have hm4 := methPop ⟨L, 0, none⟩ w3
  have HPO : Hid (Calls Try.prog 125 #[.pointer (some ⟨L, 0, none⟩)] w3 (fun e w' => e = .returned (.iface 3 (.int .i64 X)) ∧ Hid (Kt (TbO L) w3 w' ∧ PLs w' base L (popV l).2))) := Lib.hid (by
    have h1 := ppop_any H3.out.2 (by rw [hdl]; omega) (by rw [hdl]; omega)
    rw [hdl, Nat.add_sub_cancel, ← HXX.out.1, ← HXX.out.2] at h1
    exact h1)
  clear hdl hsl
  go_wp2_with (first | (go_at_call 125; refine HPO.out.mono ?_; rintro e4 w4 ⟨rfl, H4⟩) | fail)
  try go_ret
  rw [HQ.out]
  exact ⟨rfl, Lib.hid ⟨(H2.out.1.trans H3.out.1).trans H4.out.1, H4.out.2⟩⟩
end Go.Proofs.Ytmommjagndadjaa.Sc
namespace Go.Proofs.Ytmommjagndadjaa.Sc
open Go.RowKit Go.Shelf Go.Maps Go.Proofs.Ytmommjagndadjaa
set_option linter.unusedSimpArgs false
set_option linter.unusedVariables false
set_option maxRecDepth 100000

attribute [local go_sem] Oper.semAt_some

theorem once_any (p : Option Addr) (n c : Nat) (w : World) : Calls Try.prog 40 #[.slice p n c] w fun e w' => e = .returned (.func (.func 63) #[] #[.pointer (some ⟨w.heap.size, 0, none⟩)]) ∧ w' = w.alloc (.cells #[.slice p n c] 36) := by
  go_enter Try.func40, Try.ntmps40
  go_wp2
  go_ret
  exact ⟨rfl, rfl⟩
def ones1 (l : List Int) : List (Int × Value) := l.map fun x => (x, Value.int .i64 1)
theorem find_ones (x : Int) : ∀ l : List Int, findI (ones1 l) x = if x ∈ l then some (.int .i64 1) else none
  | [] => rfl
  | y :: l => by
    unfold ones1
    rw [List.map_cons]
    by_cases h : y = x
    · subst h
      rw [findI_same, if_pos (by simp)]
    · rw [findI_other h]
      have := find_ones x l
      unfold ones1 at this
      rw [this]
      by_cases h2 : x ∈ l
      · rw [if_pos h2, if_pos (by simp [h2])]
      · rw [if_neg h2, if_neg (by simp [h2]; exact fun e => h e.symm)]
theorem onceV_in (seen : List Int) (l : List Int) {k : Nat} {x : Int} (h : l[k]? = some x) (hs : x ∈ seen) : onceV seen (l.drop k) = onceV seen (l.drop (k + 1)) := by
  rw [drop_at h, onceV, if_pos hs]
theorem onceV_out (seen : List Int) (l : List Int) {k : Nat} {x : Int} (h : l[k]? = some x) (hs : x ∉ seen) : onceV seen (l.drop k) = x :: onceV (x :: seen) (l.drop (k + 1)) := by
  rw [drop_at h, onceV, if_neg hs]
set_option maxHeartbeats 4000000 in
theorem once1_in (F : Fence) (n : Nat) (hf : F.fn 63) (hro : F.round = none) (hn : 1 ≤ n) (l Bs B : Nat) (p : Option Addr) (N cap : Nat) (xs : List Int) (hxl : xs.length = N) (hN : N ≤ 1000000000) (hx64 : ∀ x ∈ xs, I64 x) (J : List Int → World → Prop) (Z : Nat → Prop)
    (hJx : ∀ s W W', J s W → Ext W W' → J s W') (hJk : ∀ s W W', J s W → Kb [B + 2] W W' → J s W') (hZ : Z Bs ∧ Z (B + 2)) (hZp : ∀ b o, 0 < N → p = some ⟨b, o, none⟩ → Z b ∧ b ≠ B + 2) (hBs : Bs < B)
    (hY : ∀ pre x rest W1, onceV [] xs = pre ++ x :: rest → J pre W1 → B + 3 ≤ W1.heap.size → YieldAt F (n - 1) Try.prog l #[.int .i64 x] W1 fun e W' => e = .returned (.bool true) ∧ J (pre ++ [x]) W' ∧ KpZ Z W1 W')
    (W : World) (hW : W.heap.size = B + 2) (hBc : W.heap[Bs]? = some (.cells #[.slice p N cap] 36 (0, 0))) (hsl : SlC W (.slice p N cap) N (i64s xs)) (h0 : J [] W) :
    CallsIn F n Try.prog 63 #[.func (.yield l) #[] #[], .pointer (some ⟨Bs, 0, none⟩)] W fun e W' => (∃ v, e = .returned v) ∧ J (onceV [] xs) W' := by
  obtain ⟨a', c', e, h1, h2, hc⟩ := id hsl
  simp only [Value.slice.injEq] at e
  obtain ⟨rfl, -, rfl⟩ := e
  have hcI : (cap : Int) ≤ 9223372036854775807 := by unfold maxLen at h2; omega
  have hx1 : Ext W (W.alloc (.map #[] 0)) := (Ext.refl W).alloc _
  have hm1 : IM Try.prog 3 W.heap.size [] (W.alloc (.map #[] 0)) := IM.made _ _ W
  have hJ1 := hJx _ _ _ h0 hx1
  have HB1 : Hid (∀ wr, KpZ (fun k => Z k ∧ k ≠ B + 2) (W.alloc (.map #[] 0)) wr → wr.heap[Bs]? = some (.cells #[.slice p N cap] 36 (0, 0)) ∧ ∀ (j : Nat) (u : Value), (i64s xs)[j]? = some u → ∃ b o, p = some ⟨b, o, none⟩ ∧ wr.cell? ⟨b, o + j, none⟩ = some u) := Lib.hid (fun wr hk => by
    have e1 := ext_block hx1 hBc
    refine ⟨(hk.2 Bs ⟨hZ.1, by omega⟩ (Array.getElem?_eq_some_iff.1 e1).1).trans e1, fun j u hu => ?_⟩
    obtain ⟨b, o, e2, h3⟩ := hc j u hu
    refine ⟨b, o, e2, ?_⟩
    have h4 := hx1.cell h3
    have h5 := World.block_lt_of_cell? _ _ h4
    have h7 : 0 < N := by
      have h8 : j < (i64s xs).length := (List.getElem?_eq_some_iff.1 hu).1
      unfold i64s at h8
      rw [List.length_map, hxl] at h8
      omega
    have h6 := hk.2 b (hZp b o h7 e2) h5
    unfold World.cell? at h4 ⊢
    simp only at h4 ⊢
    rw [h6]
    exact h4)
  have HY := Lib.hid hY
  have HJ := Lib.hid (And.intro hJx hJk)
  have HXS := Lib.hid (And.intro hxl hx64)
  have HZZ := Lib.hid hZ
  have hmk := @run_makeMap Try.prog
  have c0 : W.cell? ⟨Bs, 0, none⟩ = some (.slice p N cap) := by rw [cell_of_row W Bs 0 _ _ (0, 0) hBc]; rfl
  have c1 := hx1.cell c0
  have c0l := World.block_lt_of_cell? _ _ c0
  have c1l := World.block_lt_of_cell? _ _ c1
  have HW1 : Hid (KpZ (fun k => Z k ∧ k ≠ B + 2) (W.alloc (.map #[] 0)) (W.alloc (.map #[] 0)) ∧ IM Try.prog 3 (B + 2) [] (W.alloc (.map #[] 0)) ∧ J [] (W.alloc (.map #[] 0)) ∧ B + 3 ≤ (W.alloc (.map #[] 0)).heap.size) := Lib.hid ⟨KpZ.refl _ _, by rw [← hW]; exact hm1, hJ1, by simp [hW]⟩
  clear hxl hx64 hY hJx hJk hsl h0 hm1 hJ1 hx1 hBc hc h2 hZ hZp
  refine callsIn_of_wp Try.func63 rfl hf ?_ hro
  simp only [Try.ntmps63, List.size_toArray, List.length_cons, List.length_nil, Nat.reduceAdd, Nat.reduceSub, Array.replicate_succ, Array.replicate_zero, List.push_toArray, List.append_toArray, List.nil_append, List.cons_append]
  gi_wp2
  generalize W.alloc (.map #[] 0) = w1 at HB1 HW1 c1 c1l ⊢
  clear c0 c0l c1 c1l hW hmk
  gi_loopw [9] (fun i wr => ∃ (k : Nat) (pre ks : List Int), k ≤ N ∧ i = .int .i64 (k : Int) ∧ Hid (KpZ (fun k => Z k ∧ k ≠ B + 2) w1 wr ∧ IM Try.prog 3 (B + 2) (ones1 ks) wr ∧ J pre wr ∧ B + 3 ≤ wr.heap.size) ∧ Hid (onceV [] xs = pre ++ onceV ks (xs.drop k) ∧ ks.length ≤ k)) (fun i _ => N - (intOf i).toNat)
  case atStart => exact ⟨0, [], [], Nat.zero_le _, rfl, HW1, Lib.hid ⟨rfl, Nat.le_refl _⟩⟩
  case round =>
    obtain ⟨k, pre, ks, hk, rfl, HR, HO⟩ := hrel
    by_cases hlt : k < N
    · have hki : (k : Int) < (N : Int) := Int.ofNat_lt.2 hlt
      obtain ⟨x, hx⟩ : ∃ x, xs[k]? = some x := ⟨_, List.getElem?_eq_getElem (by rw [HXS.out.1]; exact hlt)⟩
      have hx64 := HXS.out.2 x (List.mem_of_getElem? hx)
      obtain ⟨b, o, rfl, d0⟩ := (HB1.out wr HR.out.1).2 k (.int .i64 x) (by unfold i64s; rw [List.getElem?_map, hx]; rfl)
      have dl := World.block_lt_of_cell? _ _ d0
      have hkc : k < cap := by omega
      have hlk := HR.out.2.1.look Try.underlying3 Try.underlying82 (czeroI wr) (wfI hx64)
      rw [find_ones] at hlk
      have HX := Lib.hid (And.intro hx hx64)
      clear hx hx64
      by_cases hin : x ∈ ks
      · rw [if_pos hin] at hlk
        simp only [Option.getD_some] at hlk
        have HE : Hid (onceV [] xs = pre ++ onceV ks (xs.drop (k + 1)) ∧ ks.length ≤ k + 1) := Lib.hid ⟨by rw [HO.out.1, onceV_in ks xs HX.out.1 hin], by have := HO.out.2; omega⟩
        clear hin
        gi_wp2
        exact ⟨⟨k + 1, pre, ks, by omega, by go_num, HR, HE⟩, by simp [intOf]; omega⟩
      · rw [if_neg hin] at hlk
        simp only [Option.getD_none] at hlk
        have hdr := HO.out.1
        rw [onceV_out ks xs HX.out.1 hin] at hdr
        obtain ⟨w9, hrun, hm9, hg9⟩ := HR.out.2.1.put Try.underlying3 Try.underlying82 (by unfold ones1 maxLen; simp; have := HO.out.2; omega) (wfI HX.out.2) (.int .i64 1)
        have hk9 : Kb [B + 2] wr w9 := Kb.grown hg9 (fun g hg => by simp at hg; simp [hg])
        have hj9 := HJ.out.2 _ _ _ HR.out.2.2.1 hk9
        have hs9 := Nat.le_trans HR.out.2.2.2 hk9.size
        obtain ⟨fn, tmps, assign, body, hyy, hRR⟩ := HY.out pre x _ w9 hdr hj9 hs9
        have H9 := Lib.hid (And.intro hm9 (And.intro hk9 hs9))
        have HRR := Lib.hid hRR
        have HD := Lib.hid hdr
        clear hm9 hg9 hk9 hj9 hs9 hRR hdr hin
        gi_wp2
        refine HRR.out.mono ?_
        rintro e W3 ⟨rfl, hJ3, hk3⟩
        have HE : Hid (KpZ (fun k => Z k ∧ k ≠ B + 2) w1 W3 ∧ IM Try.prog 3 (B + 2) (ones1 (x :: ks)) W3 ∧ J (pre ++ [x]) W3 ∧ B + 3 ≤ W3.heap.size) := Lib.hid ⟨(HR.out.1.trans (KpZ.of_kb H9.out.2.1 (fun j hj => by simp at hj; simp [hj]))).trans ⟨hk3.1, fun j hj hl => hk3.2 j hj.1 hl⟩, H9.out.1.at (hk3.2 _ HZZ.out.2 H9.out.1.lt), hJ3, Nat.le_trans H9.out.2.2 hk3.1⟩
        have HE2 : Hid (onceV [] xs = (pre ++ [x]) ++ onceV (x :: ks) (xs.drop (k + 1)) ∧ (x :: ks).length ≤ k + 1) := Lib.hid ⟨by rw [HD.out]; simp, by have := HO.out.2; simp; omega⟩
        clear hJ3 hk3
        gi_wp2
        exact ⟨⟨k + 1, pre ++ [x], x :: ks, by omega, by go_num, HE, HE2⟩, by simp [intOf]; omega⟩
    · obtain rfl : N = k := by omega
      have hki : ¬ (N : Int) < (N : Int) := by omega
      have HE : Hid (J (onceV [] xs) wr) := Lib.hid (by
        have h1 := HO.out.1
        rw [← HXS.out.1, List.drop_length] at h1
        rw [h1]
        simp [onceV]
        exact HR.out.2.2.1)
      gi_wp2
      go_end0
      exact ⟨⟨_, rfl⟩, HE.out⟩
end Go.Proofs.Ytmommjagndadjaa.Sc

/-
  A region that draws its order and ends in one operation that waits for all others: its head walked by hand, a condition on the world kept behind each operation of the head alone.
  No condition.
-/
import Derived.Test.YtlikmdeplpldlaaDoorKit
import Derived.Deep.RegionHeld3
namespace Go.Proofs.YtlikmdeplpldlaaDoor
open Go.RowKit
set_option linter.unusedSimpArgs false
set_option linter.unusedVariables false
set_option maxRecDepth 100000

section
variable {P : Program} {ops : Array Oper} {Q : Exit → Act → World → Prop} {md : Region.Mode} {S : World → Prop} {n : Nat} {R : Array Bool → Act → World → Prop}
/-- Whatever order is picked among the first n operations, f of them still to come; S behind each; R at their end. -/
def HeadS (P : Program) (md : Region.Mode) (ops : Array Oper) (Q : Exit → Act → World → Prop) (S : World → Prop) (n : Nat) (R : Array Bool → Act → World → Prop) : Nat → Array Bool → Act → World → Prop
  | 0, listed, a, w => R listed a w
  | f + 1, listed, a, w => HeadInv md ops n listed → Region.ready md ops listed ≠ [] ∧ ∀ i ∈ Region.ready md ops listed, i < n ∧ wpOp P ops Q i (fun a' w' => S w' ∧ HeadS P md ops Q S n R f (listed.setIfInBounds i true) a' w') a w
theorem any_of_headS {g : Nat} (hR : ∀ listed a w, R listed a w → wpAny P md ops Q g listed a w) :
    ∀ (f : Nat) (listed : Array Bool) (a : Act) (w : World), HeadInv md ops n listed → HeadS P md ops Q S n R f listed a w → wpAny P md ops Q (f + g) listed a w := by
  intro f
  induction f with
  | zero => intro listed a w _ h; rw [Nat.zero_add]; exact hR _ _ _ h
  | succ f ih =>
    intro listed a w inv h
    obtain ⟨h0, h1⟩ := h inv
    rw [show f + 1 + g = (f + g) + 1 from by omega]
    exact ⟨fun e => absurd e h0, fun i hi => wpOp_mono (fun a' w' h' => ih _ a' w' (inv.set hi (h1 i hi).1) h'.2) (h1 i hi).2⟩
theorem headS_first {i : Nat} {oi : Oper} {v : Value} (hi : ops[i]? = some oi) (hsel : ∀ (j : Nat) (o : Oper) cs b, ops[j]? = some o → o.op ≠ .select cs b)
    (hQ : ∀ c a w, Q (.panic c) (a.put oi.dst v) w → Q (.panic c) a w) (hs : Region.sinkB md ops n = true) (hc : Region.chainB md ops n = true) (hn : n < ops.size) (hin : i < n)
    (hdone : ∀ listed a w, R listed a w → ∀ j ∈ Region.ready md ops listed, n ≤ j) :
    ∀ (f : Nat) (listed : Array Bool) (a : Act) (w : World),
      (∀ j oj, ops[j]? = some oj → j ≠ i → listed.getD j true = false → (∀ e ∈ oj.after, Region.binds md e = true → e.on ≠ i) → oi.apart ops oj = true) →
      i ∈ Region.ready md ops listed → YieldsIf P ops S oi v a → S w →
      HeadS P md ops Q S n R f (listed.setIfInBounds i true) (a.put oi.dst v) w → HeadS P md ops Q S n R (f + 1) listed a w := by
  intro f
  induction f with
  | zero =>
    intro listed a w _ hr hy hS H inv
    refine ⟨fun h => (by rw [h] at hr; cases hr), fun j hj => ?_⟩
    have hun := (mem_ready.1 hr).1
    by_cases hjn : j < n
    · refine ⟨hjn, ?_⟩
      by_cases hji : j = i
      · subst hji; exact hy.wpOp hi hS ⟨hS, H⟩
      · have := hdone _ _ _ H j (ready_mono hj hji)
        omega
    · exact absurd hj (tail_waits hs hc hn inv _ i rfl hin hun j (by omega))
  | succ f ih =>
    intro listed a w hfree hr hy hS H inv
    refine ⟨fun h => (by rw [h] at hr; cases hr), fun j hj => ?_⟩
    have hun := (mem_ready.1 hr).1
    by_cases hjn : j < n
    · refine ⟨hjn, ?_⟩
      by_cases hji : j = i
      · subst hji; exact hy.wpOp hi hS ⟨hS, H⟩
      · have h1 := ((H (inv.set hr hin)).2 j (ready_mono hj hji)).2
        obtain ⟨hjun, oj, hoj, hall⟩ := mem_ready.1 hj
        have hnot : ∀ e ∈ oj.after, Region.binds md e = true → e.on ≠ i := fun e he hb heq => by
          have h3 := hall e he hb
          rw [heq, getD_both hun] at h3
          cases h3
        have h2 := wpOp_putIf hoj (hfree j oj hoj hji hjun hnot) (fun cs b => hsel i oi cs b hi) (fun cs b => hsel j oj cs b hoj) hQ hy h1
        have hfree' : ∀ k ok, ops[k]? = some ok → k ≠ i → (listed.setIfInBounds j true).getD k true = false →
            (∀ e ∈ ok.after, Region.binds md e = true → e.on ≠ i) → oi.apart ops ok = true := fun k ok hk hki hun hno => by
          refine hfree k ok hk hki ?_ hno
          by_cases hjk : j = k
          · subst hjk; exact hjun
          · rw [getD_set_ne true hjk] at hun; exact hun
        refine wpOp_mono (fun a' w' h3 => ⟨h3.2.1, ih (listed.setIfInBounds j true) a' w' hfree' (ready_mono hr (Ne.symm hji)) h3.1 h3.2.1 ?_⟩) h2
        rw [Array.setIfInBounds_comm _ _ hji]
        exact h3.2.2
    · exact absurd hj (tail_waits hs hc hn inv _ i rfl hin hun j (by omega))
end
section
variable {P : Program} {l : List Oper} {Q : Exit → Act → World → Prop} {S : World → Prop} {n : Nat}
/-- The rest stands in one order. -/
def TailR (P : Program) (l : List Oper) (Q : Exit → Act → World → Prop) (n : Nat) (listed : Array Bool) (a : Act) (w : World) : Prop := Region.seqB .any l.toArray (l.length - n) n listed = true ∧ wpList P l.toArray Q (l.drop n) a w
def Hd (P : Program) (l : List Oper) (Q : Exit → Act → World → Prop) (S : World → Prop) (n : Nat) (f : Nat) (listed : Array Bool) (a : Act) (w : World) : Prop := HeadS P .any l.toArray Q S n (TailR P l Q n) f listed a w
def tailB (l : List Oper) (n : Nat) : Bool := Region.noSelect l.toArray && decide (n < l.length) && Region.sinkB .any l.toArray n && Region.chainB .any l.toArray n
/-- The beginning. -/
theorem hd_begin {id : Nat} {a : Act} {w : World} (n : Nat) (hm : P.follows .mixedOrders = true) (hB : tailB l n = true) (hS : S w.drew) (h : S w.drew → Hd P l Q S n n (Array.replicate l.length false) a w.drew) : (Code.region id l.toArray true).wp P Q a w := by
  simp only [tailB, Bool.and_eq_true, decide_eq_true_eq] at hB
  obtain ⟨⟨⟨_, hn⟩, _⟩, _⟩ := hB
  have inv0 : HeadInv .any l.toArray n (Array.replicate l.length false) :=
    ⟨by simp, fun j oj _ hl => (by rw [getD_replicate_false] at hl; cases hl), fun t _ ht => getD_in (by simpa using ht) (getD_replicate_false _ _)⟩
  have hdl : (l.drop n).length = l.length - n := by simp
  refine wp_region_any hm ?_
  have := any_of_headS (Q := Q) (S := S) (R := TailR P l Q n) (g := l.length - n) (fun listed a' w' hR => by
    have := wpAny_of_seq (md := .any) (Q' := Q) (l.drop n) n listed a' w' (fun j => by simp [List.getElem?_drop]) (by rw [hdl]; exact hR.1) hR.2
    rwa [hdl] at this) n _ a _ inv0 (h hS)
  rw [show n + (l.length - n) = l.toArray.size from by simp; omega] at this
  simpa using this
/-- Number i is taken first: it yields v in every world that meets S. -/
theorem hd_take {i f : Nat} {oi : Oper} {v : Value} {listed : Array Bool} {a : Act} {w : World} (hi : l[i]? = some oi) (hB : tailB l n = true) (hB2 : (decide (i < n) && Region.free .any l.toArray listed i && (Region.ready .any l.toArray listed).contains i) = true)
    (hQ : ∀ c a w, Q (.panic c) (a.put oi.dst v) w → Q (.panic c) a w) (hy : YieldsIf P l.toArray S oi v a) (hS : S w) (h : Hd P l Q S n f (listed.setIfInBounds i true) (a.put oi.dst v) w) : Hd P l Q S n (f + 1) listed a w := by
  simp only [tailB, Bool.and_eq_true, decide_eq_true_eq] at hB hB2
  obtain ⟨⟨⟨hsel, hn⟩, hs⟩, hc⟩ := hB
  obtain ⟨⟨hin, hf⟩, hr⟩ := hB2
  have hi' : l.toArray[i]? = some oi := by simpa using hi
  exact headS_first hi' (Region.noSelect_spec hsel) hQ hs hc (by simpa using hn) hin (fun _ _ _ hR => seqB_ready hR.1) f listed a w (Region.free_spec hi' hf) (by simpa using hr) hy hS h
/-- Number i alone may come up. -/
theorem hd_one {i f : Nat} {o : Oper} {listed : Array Bool} {a : Act} {w : World} (hi : l[i]? = some o) (hr : Region.ready .any l.toArray listed = [i]) (hin : i < n)
    (h : ∀ K' : Act → World → Prop, Shut (∀ a w, S w → (S w → Hd P l Q S n f (listed.setIfInBounds i true) a w) → K' a w) → if Region.wanted o (yielded l.toArray a.tmps) = true then Oper.wp P o a w K' Q else K' (a.put o.dst undef) w) : Hd P l Q S n (f + 1) listed a w := by
  intro _
  rw [hr]
  refine ⟨by simp, fun j hj => ?_⟩
  obtain rfl := List.mem_singleton.1 hj
  exact ⟨hin, wpOp_step (by simpa using hi) (fun K' hK => h K' (fun a w hS hW => hK a w ⟨hS, hW hS⟩))⟩
/-- The head is over. -/
theorem hd_end {listed : Array Bool} {a : Act} {w : World} (hB : Region.seqB .any l.toArray (l.length - n) n listed = true) (h : wpList P l.toArray Q (l.drop n) a w) : Hd P l Q S n 0 listed a w := ⟨hB, h⟩
end
end Go.Proofs.YtlikmdeplpldlaaDoor

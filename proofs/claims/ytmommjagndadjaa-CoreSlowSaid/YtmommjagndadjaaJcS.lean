/-
  Arguments that are rows of bools, or of numbers: how they lie in memory.
  No condition.
  A region that draws its order and whose operations may make memory: one walk, whatever the order.
  No condition.
  The law on slow clocks of flat programs: what it computes is true.
  No condition.
-/
import Derived.Test.YtmommjagndadjaaJcA
import Derived.StillTailTactics
import Derived.Lib.Hide
import Derived.Test.YtmommjagndadjaaJcN
namespace Go.Proofs.Ytmommjagndadjaa
open Go.RowKit Go.ChangeShapes Go.WideShapes Go.ChangeAt
set_option linter.unusedSimpArgs false
set_option linter.unusedVariables false
set_option maxRecDepth 100000

def boolsC (l : List Bool) : List Value := l.map Value.bool
theorem cellsBoolC : Try.prog.cellsOf 4 = 1 := by kernel_rfl
section
variable {H : Type} {enc : TypeId × Value → H} {W : World} {base base0 : Nat} {r : Reach} {sp : Nat → Bool} {held : Bool} {v : Value} {d : DataW H} {p : List MemPlace}
theorem open_boolsC (hval : Value.okWide Try.prog W r base0 54 v) (h : DataW.Trod enc Try.prog W base sp held 54 v d p) :
    ∃ l : List Bool, SlC W v l.length (boolsC l) := by
  obtain ⟨va, vm, vc, rfl⟩ := okWide_slice Try.underlying54 hval
  obtain ⟨fuel, h⟩ := h
  rcases Deep.open_slice1 Try.underlying54 cellsBoolC h with ⟨e1, -⟩ | ⟨a, len, cap, m, n, V, D, Pl, e1, hb, hl, hcm, hm, -, hel⟩
  · change [Value.slice va vm vc] = _ at e1
    simp only [List.cons.injEq, and_true] at e1
    rw [e1]
    exact ⟨[], ⟨none, 0, rfl, Nat.le_refl _, Nat.zero_le _, fun j u hu => by simp [boolsC] at hu⟩⟩
  · change [Value.slice va vm vc] = _ at e1
    simp only [List.cons.injEq, and_true] at e1
    rw [e1]
    have hlm : len ≤ m := by rw [hm]; split <;> omega
    have each : ∀ i, i < len → ∃ b : Bool, V i = .bool b := fun i hi => by
      obtain ⟨_, h2⟩ := hel i (by omega)
      obtain ⟨b, e, _⟩ := DataW.trod_bool Try.underlying4 h2
      simp only [List.cons.injEq, and_true] at e
      exact ⟨b, e⟩
    have hch : ∃ f : Nat → Bool, ∀ i, i < len → V i = .bool (f i) := by
      classical
      exact ⟨fun i => if hi : i < len then Classical.choose (each i hi) else false, fun i hi => by simp only [dif_pos hi]; exact Classical.choose_spec (each i hi)⟩
    obtain ⟨f, hf⟩ := hch
    refine ⟨(List.range len).map f, ?_⟩
    rw [show ((List.range len).map f).length = len by simp]
    refine slc_at hl hcm fun j u hu => ?_
    have hj : j < len := by have := (List.getElem?_eq_some_iff.1 hu).1; simpa [boolsC] using this
    rw [(hel j (by omega)).1]
    unfold boolsC at hu
    rw [List.getElem?_map, List.getElem?_map, List.getElem?_range hj] at hu
    simp only [Option.map_some] at hu
    rw [hf j hj]
    exact hu
theorem open_intsC (hval : Value.okWide Try.prog W r base0 36 v) (h : DataW.Trod enc Try.prog W base sp held 36 v d p) :
    ∃ l : List Int, SlC W v l.length (i64s l) ∧ ∀ n ∈ l, I64 n := by
  obtain ⟨va, vm, vc, rfl⟩ := okWide_slice Try.underlying36 hval
  obtain ⟨fuel, h⟩ := h
  change DataW.trod enc Try.prog W base sp held fuel 36 [.slice va vm vc] = _ at h
  obtain ⟨l, hl, hw⟩ := open_numbers Try.underlying36 Try.underlying3 cellsInt h
  exact ⟨l, hl, fun n hn => lit_I64 (hw n hn)⟩
end
end Go.Proofs.Ytmommjagndadjaa
namespace Go.Proofs.Ytmommjagndadjaa
open Go.RowKit
set_option linter.unusedSimpArgs false
set_option linter.unusedVariables false
set_option maxRecDepth 100000

/-- The slot that an operation writes. -/
def dstAt (ops : Array Oper) (i : Nat) : Nat := ((ops[i]?).bind (·.dst)).getD 0
/-- The results of the first n operations, laid into an act. -/
def putL (ops : Array Oper) (ν : Nat → Value) : Nat → Act → Act
  | 0, a => a
  | n + 1, a => (putL ops ν n a).put (some (dstAt ops n)) (ν n)
def valA (ops : Array Oper) (a : Act) (i : Nat) : Value := a.eval (.tmp (dstAt ops i))
section
variable {P : Program} {Q : Exit → Act → World → Prop} {ops : Array Oper}
theorem putL_size (ν : Nat → Value) (a : Act) : ∀ n, (putL ops ν n a).tmps.size = a.tmps.size
  | 0 => rfl
  | n + 1 => by simp [putL, Act.put, putL_size ν a n]
theorem putL_defers (ν : Nat → Value) (a : Act) : ∀ n, (putL ops ν n a).defers = a.defers
  | 0 => rfl
  | n + 1 => by simp [putL, Act.put, putL_defers ν a n]
theorem putL_off {ν : Nat → Value} {a : Act} {s : Nat} : ∀ n, (∀ i, i < n → dstAt ops i ≠ s) → (putL ops ν n a).tmps[s]? = a.tmps[s]?
  | 0, _ => rfl
  | n + 1, h => by
    have h1 := h n (Nat.lt_succ_self n)
    show (Array.setIfInBounds _ _ _)[s]? = _
    rw [Array.getElem?_setIfInBounds_ne h1, putL_off n (fun i hi => h i (by omega))]
theorem putL_at {ν : Nat → Value} {a : Act} : ∀ n, (∀ i j, j < i → i < n → dstAt ops j ≠ dstAt ops i) → ∀ i, i < n → dstAt ops i < a.tmps.size → (putL ops ν n a).tmps[dstAt ops i]? = some (ν i)
  | 0, _, i, hi, _ => by omega
  | n + 1, hd, i, hi, hs => by
    show (Array.setIfInBounds _ _ _)[_]? = _
    by_cases e : i = n
    · subst e
      rw [Array.getElem?_setIfInBounds_self_of_lt (by rw [putL_size]; exact hs)]
    · rw [Array.getElem?_setIfInBounds_ne (fun h => hd n i (by omega) (by omega) h.symm)]
      exact putL_at n (fun i j h1 h2 => hd i j h1 (by omega)) i (by omega) hs
theorem act_putL {a a0 : Act} {n : Nat} (hs : a.tmps.size = a0.tmps.size) (hd : a.defers = a0.defers) (hoff : ∀ s, (∀ i, i < n → dstAt ops i ≠ s) → a.tmps[s]? = a0.tmps[s]?) (dist : ∀ i j, j < i → i < n → dstAt ops j ≠ dstAt ops i) (hin : ∀ i, i < n → dstAt ops i < a0.tmps.size) : a = putL ops (valA ops a) n a0 := by
  obtain ⟨ν, hν⟩ : ∃ ν, ν = valA ops a := ⟨_, rfl⟩
  rw [← hν]
  have ht : a.tmps = (putL ops ν n a0).tmps := by
    apply Array.ext_getElem?
    intro s
    by_cases h : ∃ i, i < n ∧ dstAt ops i = s
    · obtain ⟨i, hi, rfl⟩ := h
      have hlt : dstAt ops i < a.tmps.size := by rw [hs]; exact hin i hi
      rw [putL_at n dist i hi (hin i hi), hν, valA, Act.eval]
      simp [hlt]
    · rw [putL_off n (fun i hi e => h ⟨i, hi, e⟩)]
      exact hoff s (fun i hi e => h ⟨i, hi, e⟩)
  have hdf := putL_defers (ops := ops) ν a0 n
  rw [← hd] at hdf
  generalize putL ops ν n a0 = b at ht hdf ⊢
  cases a
  cases b
  simp only at ht hdf
  rw [ht, hdf]
/-- What is asked of such a region: its first n operations have no guard, a slot each, and wait for earlier ones alone; the others stand in one order behind them. -/
def freeRB (ops : Array Oper) (n m : Nat) : Bool :=
  decide (n < ops.size) && Region.sinkB .any ops n && Region.chainB .any ops n && Region.seqB .any ops (ops.size - n) n ((Array.range ops.size).map fun i => decide (i < n)) &&
  ((List.range n).all fun i => match ops[i]? with
    | none => false
    | some o => o.guard.isNone && (match o.dst with
      | none => false
      | some d => decide (d < m) && (List.range i).all fun j => dstAt ops j != d)) &&
  ((List.range n).all fun i => match ops[i]? with
    | none => true
    | some o => o.after.all fun e => !Region.binds .any e || decide (e.on < i))
/-- A table of what operations wait for, at one or more removes. -/
def tabB (ops : Array Oper) (n : Nat) (D : Nat → List Nat) : Bool := (List.range n).all fun i => (D i).all fun j => Region.waitsFor .any ops i j || (D i).any fun k => Region.waitsFor .any ops i k && (D k).contains j
theorem tabB_spec {ops : Array Oper} {n : Nat} {D : Nat → List Nat} (h : tabB ops n D = true) {i j : Nat} (hi : i < n) (hj : j ∈ D i) : Region.waitsFor .any ops i j = true ∨ ∃ k, Region.waitsFor .any ops i k = true ∧ j ∈ D k := by
  unfold tabB at h
  have h1 := List.all_eq_true.1 (List.all_eq_true.1 h i (List.mem_range.2 hi)) j hj
  rw [Bool.or_eq_true] at h1
  rcases h1 with h1 | h1
  · exact .inl h1
  · obtain ⟨k, -, h2⟩ := List.any_eq_true.1 h1
    rw [Bool.and_eq_true] at h2
    exact .inr ⟨k, h2.1, by simpa using h2.2⟩
theorem tabB_lt {ops : Array Oper} {n : Nat} {D : Nat → List Nat} (h : tabB ops n D = true) (back : ∀ i j, i < n → Region.waitsFor .any ops i j = true → j < i) : ∀ i, i < n → ∀ j, j ∈ D i → j < i := by
  intro i
  induction i using Nat.strongRecOn with
  | _ i ih =>
    intro hi j hj
    rcases tabB_spec h hi hj with h1 | ⟨k, h1, h2⟩
    · exact back i j hi h1
    · have hk := back i k hi h1
      have := ih k hk (by omega) j h2
      omega
theorem tabB_listed {ops : Array Oper} {n : Nat} {D : Nat → List Nat} {listed : Array Bool} (h : tabB ops n D = true) (back : ∀ i j, i < n → Region.waitsFor .any ops i j = true → j < i) (hd : HeadInv .any ops n listed) : ∀ i, i < n → (∀ k, Region.waitsFor .any ops i k = true → listed.getD k false = true) → ∀ j, j ∈ D i → listed.getD j false = true := by
  intro i
  induction i using Nat.strongRecOn with
  | _ i ih =>
    intro hi hl j hj
    rcases tabB_spec h hi hj with h1 | ⟨k, h1, h2⟩
    · exact hl j h1
    · have hk := back i k hi h1
      refine ih k hk (by omega) (fun m hm => ?_) j h2
      obtain ⟨ok, hok, e, he, hb, hon⟩ := Region.waitsFor_spec hm
      rw [← hon]
      exact hd.closed k ok hok (hl k h1) e he hb
structure FInv (ops : Array Oper) (n : Nat) (w0 : World) (F : Nat → (Nat → Value) → Value → World → Prop) (a0 : Act) (listed : Array Bool) (a : Act) (w : World) : Prop where
  hd : HeadInv .any ops n listed
  ext : Ext w0 w
  df : a.defers = a0.defers
  sz : a.tmps.size = a0.tmps.size
  off : ∀ s, (∀ i, i < n → dstAt ops i ≠ s) → a.tmps[s]? = a0.tmps[s]?
  fact : ∀ i, i < n → listed.getD i false = true → F i (valA ops a) (valA ops a i) w
theorem first_false (p : Nat → Bool) : ∀ k, p k = false → ∃ i, i ≤ k ∧ p i = false ∧ ∀ j, j < i → p j = true := by
  intro k
  induction k using Nat.strongRecOn with
  | _ k ih =>
    intro hk
    by_cases h : ∃ j, j < k ∧ p j = false
    · obtain ⟨j, hj, hp⟩ := h
      obtain ⟨i, h1, h2, h3⟩ := ih j hj hp
      exact ⟨i, by omega, h2, h3⟩
    · exact ⟨k, Nat.le_refl _, hk, fun j hj => by
        cases hp : p j
        · exact absurd ⟨j, hj, hp⟩ h
        · rfl⟩
theorem valA_put {a : Act} {i j : Nat} (u : Value) (h : dstAt ops i ≠ dstAt ops j) : valA ops (a.put (some (dstAt ops i)) u) j = valA ops a j := by
  unfold valA Act.eval Act.put
  simp [Array.getElem?_setIfInBounds_ne h]
theorem valA_self {a : Act} {i : Nat} (u : Value) (h : dstAt ops i < a.tmps.size) : valA ops (a.put (some (dstAt ops i)) u) i = u := by
  unfold valA Act.eval Act.put
  simp [h]
theorem count_set {listed : Array Bool} {n i f : Nat} (hi : i < n) (hsz : i < listed.size) (hun : listed.getD i true = false) (h : ((List.range n).filter fun j => !listed.getD j true).length = f + 1) : ((List.range n).filter fun j => !(listed.setIfInBounds i true).getD j true).length = f := by
  have e : ((List.range n).filter fun j => !(listed.setIfInBounds i true).getD j true) = ((List.range n).filter fun j => !listed.getD j true).erase i := by
    rw [List.Nodup.erase_eq_filter (List.Pairwise.filter _ List.nodup_range), List.filter_filter]
    apply List.filter_congr
    intro j _
    by_cases hij : i = j
    · subst hij
      simp [hsz]
    · rw [getD_set_ne true hij]
      have : (j != i) = true := by simp; omega
      rw [this, Bool.true_and]
  rw [e, List.length_erase_of_mem (List.mem_filter.2 ⟨List.mem_range.2 hi, by rw [hun]; rfl⟩), h]
  rfl
variable {n : Nat} {D : Nat → List Nat} {w0 : World} {F : Nat → (Nat → Value) → Value → World → Prop} {a0 : Act}
theorem free_any (hB : freeRB ops n a0.tmps.size = true) (hDB : tabB ops n D = true)
    (hcong : ∀ i, i < n → ∀ ν ν' u w, (∀ j, j ∈ D i → ν j = ν' j) → F i ν u w → F i ν' u w)
    (hpers : ∀ i ν u w w', i < n → F i ν u w → Ext w w' → F i ν u w')
    (hstep : ∀ i o, i < n → ops[i]? = some o → ∀ ν w, Ext w0 w → (∀ j, j ∈ D i → F j ν (ν j) w) → ∀ K : Act → World → Prop, (∀ u w', Ext w w' → F i ν u w' → K ((putL ops ν n a0).put o.dst u) w') → Oper.wp P o (putL ops ν n a0) w K Q)
    (htail : ∀ ν w, Ext w0 w → (∀ i, i < n → F i ν (ν i) w) → wpList P ops Q (ops.toList.drop n) (putL ops ν n a0) w) :
    ∀ (f : Nat) (listed : Array Bool) (a : Act) (w : World), FInv ops n w0 F a0 listed a w → ((List.range n).filter fun j => !listed.getD j true).length = f → wpAny P .any ops Q (f + (ops.size - n)) listed a w := by
  unfold freeRB at hB
  simp only [Bool.and_eq_true, decide_eq_true_eq, List.all_eq_true, List.mem_range] at hB
  obtain ⟨⟨⟨⟨⟨hn, hs⟩, hc⟩, hseq⟩, hds⟩, hbk⟩ := hB
  have hop : ∀ i, i < n → ∃ o, ops[i]? = some o := fun i hi => ⟨_, Array.getElem?_eq_getElem (by omega)⟩
  have hd1 : ∀ i o, i < n → ops[i]? = some o → o.guard = none ∧ o.dst = some (dstAt ops i) ∧ dstAt ops i < a0.tmps.size ∧ ∀ j, j < i → dstAt ops j ≠ dstAt ops i := fun i o hi ho => by
    have h1 := hds i hi
    rw [ho] at h1
    simp only [Bool.and_eq_true, Option.isNone_iff_eq_none] at h1
    obtain ⟨h1, h2⟩ := h1
    cases hdst : o.dst with
    | none => rw [hdst] at h2; cases h2
    | some d =>
      have e : dstAt ops i = d := by unfold dstAt; rw [ho]; simp [hdst]
      rw [hdst] at h2
      simp only [Bool.and_eq_true, decide_eq_true_eq, List.all_eq_true, List.mem_range, bne_iff_ne] at h2
      rw [e]
      exact ⟨h1, rfl, h2.1, h2.2⟩
  have dist : ∀ i j, j < i → i < n → dstAt ops j ≠ dstAt ops i := fun i j hj hi => by
    obtain ⟨o, ho⟩ := hop i hi
    exact (hd1 i o hi ho).2.2.2 j hj
  have dne : ∀ i j, i < n → j < n → i ≠ j → dstAt ops i ≠ dstAt ops j := fun i j hi hj hne => by
    rcases Nat.lt_or_gt_of_ne hne with h | h
    · exact dist j i h hj
    · exact (dist i j h hi).symm
  have hin : ∀ i, i < n → dstAt ops i < a0.tmps.size := fun i hi => by
    obtain ⟨o, ho⟩ := hop i hi
    exact (hd1 i o hi ho).2.2.1
  have back : ∀ i j, i < n → Region.waitsFor .any ops i j = true → j < i := fun i j hi h => by
    obtain ⟨o, ho, e, he, hb, hon⟩ := Region.waitsFor_spec h
    have h1 := hbk i hi
    rw [ho] at h1
    have h2 := Array.all_eq_true_iff_forall_mem.1 h1 e he
    simp only [hb, Bool.not_true, Bool.false_or, decide_eq_true_eq] at h2
    omega
  intro f
  induction f with
  | zero =>
    intro listed a w inv hf
    have hall : ∀ i, i < n → listed.getD i true = true := fun i hi => by
      cases h : listed.getD i true with
      | true => rfl
      | false =>
        have h1 : i ∈ ((List.range n).filter fun j => !listed.getD j true) := List.mem_filter.2 ⟨List.mem_range.2 hi, by rw [h]; rfl⟩
        rw [List.length_eq_zero_iff.1 hf] at h1
        cases h1
    have hl : listed = (Array.range ops.size).map fun i => decide (i < n) := by
      apply Array.ext_getElem?
      intro i
      by_cases hi : i < ops.size
      · have h1 : i < listed.size := by rw [inv.hd.size]; exact hi
        rw [Array.getElem?_eq_getElem h1]
        by_cases hin' : i < n
        · have h2 := hall i hin'
          simp [h1] at h2
          simp [hi, hin', h2]
        · have h2 := inv.hd.tail i (by omega) hi
          simp [h1] at h2
          simp [hi, hin', h2]
      · rw [Array.getElem?_eq_none (by rw [inv.hd.size]; omega), Array.getElem?_eq_none (by simp; omega)]
    have ha := act_putL inv.sz inv.df inv.off dist hin
    have h9 := htail (valA ops a) w inv.ext (fun i hi => inv.fact i hi (by
      have h1 := hall i hi
      have h2 : i < listed.size := by rw [inv.hd.size]; omega
      simp [h2] at h1 ⊢
      exact h1))
    rw [← ha] at h9
    have hlen : (ops.toList.drop n).length = ops.size - n := by simp
    have := wpAny_of_seq (md := .any) (Q' := Q) (ops.toList.drop n) n listed a w (fun j => by simp [List.getElem?_drop]) (by rw [hlen, hl]; exact hseq) h9
    rw [hlen] at this
    rw [Nat.zero_add]
    exact this
  | succ f ih =>
    intro listed a w inv hf
    obtain ⟨i0, hi0, hun0, hmin⟩ : ∃ i, i < n ∧ listed.getD i true = false ∧ ∀ j, j < i → listed.getD j true = true := by
      have h1 : ((List.range n).filter fun j => !listed.getD j true) ≠ [] := fun e => by rw [e] at hf; simp at hf
      obtain ⟨x, hx⟩ := List.exists_mem_of_ne_nil _ h1
      obtain ⟨h2, h3⟩ := List.mem_filter.1 hx
      obtain ⟨i, h4, h5, h6⟩ := first_false (fun j => listed.getD j true) x (by simpa using h3)
      exact ⟨i, by have := List.mem_range.1 h2; omega, h5, h6⟩
    have hready : i0 ∈ Region.ready .any ops listed := by
      obtain ⟨o, ho⟩ := hop i0 hi0
      refine mem_ready.2 ⟨hun0, o, ho, fun e he hb => ?_⟩
      have h1 : Region.waitsFor .any ops i0 e.on = true := by
        unfold Region.waitsFor
        rw [ho]
        exact Array.any_eq_true'.2 ⟨e, he, by simp [hb]⟩
      have h2 := back i0 e.on hi0 h1
      have h3 := hmin e.on h2
      have h4 : e.on < listed.size := by rw [inv.hd.size]; omega
      simp [h4] at h3 ⊢
      exact h3
    rw [show f + 1 + (ops.size - n) = (f + (ops.size - n)) + 1 by omega]
    refine ⟨fun h0 => (by rw [h0] at hready; cases hready), fun i hi => ?_⟩
    have hi_n : i < n := by
      rcases Nat.lt_or_ge i n with h | h
      · exact h
      · exact absurd hi (tail_waits hs hc hn inv.hd _ i0 rfl hi0 hun0 i h)
    obtain ⟨hun, o, ho, hdeps⟩ := mem_ready.1 hi
    obtain ⟨hg, hdst, hlt, -⟩ := hd1 i o hi_n ho
    have ha := act_putL inv.sz inv.df inv.off dist hin
    have hisz : i < listed.size := by rw [inv.hd.size]; omega
    have hwl : ∀ k, Region.waitsFor .any ops i k = true → listed.getD k false = true := fun k hk => by
      obtain ⟨o', ho', e, he, hb, hon⟩ := Region.waitsFor_spec hk
      have : o' = o := Option.some.inj (ho'.symm.trans ho)
      subst this
      rw [← hon]
      exact hdeps e he hb
    have h9 := hstep i o hi_n ho (valA ops a) w inv.ext (fun j hj => inv.fact j (by have := tabB_lt hDB back i hi_n j hj; omega) (tabB_listed hDB back inv.hd i hi_n hwl j hj)) (wpAny P .any ops Q (f + (ops.size - n)) (listed.setIfInBounds i true)) (fun u w' hx hF => by
      rw [← ha, hdst]
      refine ih _ _ _ ⟨inv.hd.set hi hi_n, inv.ext.trans hx, inv.df, by simp [Act.put, inv.sz], fun s hsd => ?_, fun j hj hl => ?_⟩ (count_set hi_n hisz hun hf)
      · show (Array.setIfInBounds _ _ _)[s]? = _
        rw [Array.getElem?_setIfInBounds_ne (hsd i hi_n)]
        exact inv.off s hsd
      · by_cases hij : i = j
        · subst hij
          rw [valA_self u (by rw [inv.sz]; exact hlt)]
          refine hcong i hj _ _ _ _ (fun k hk => ?_) hF
          have h1 := tabB_lt hDB back i hi_n k hk
          exact (valA_put u (dne i k hi_n (by omega) (by omega))).symm
        · rw [valA_put u (dne i j hi_n hj hij)]
          rw [getD_set_ne false hij] at hl
          refine hcong j hj _ _ _ _ (fun k hk => ?_) (hpers j _ _ _ _ hj (inv.fact j hj hl) hx)
          have h1 := tabB_lt hDB back j hj k hk
          have hki : i ≠ k := fun e => by
            subst e
            have h2 := tabB_listed hDB back inv.hd j hj (fun m hm => by
              obtain ⟨oj, hoj, e, he, hb, hon⟩ := Region.waitsFor_spec hm
              rw [← hon]
              exact inv.hd.closed j oj hoj hl e he hb) i hk
            rw [getD_both hun] at h2
            cases h2
          exact (valA_put u (dne i k hi_n (by omega) hki)).symm)
    rw [← ha] at h9
    unfold wpOp
    simp only [ho]
    rw [if_pos (by simp [Region.wanted, hg])]
    exact .inl h9
/-- THE LAW. -/
theorem region_free {id : Nat} {l : List Oper} {a : Act} {w : World} (n : Nat) (F : Nat → (Nat → Value) → Value → World → Prop) (hm : P.follows .mixedOrders = true) (hB : freeRB l.toArray n a.tmps.size = true) (D : Nat → List Nat) (hDB : tabB l.toArray n D = true)
    (hcong : ∀ i, i < n → ∀ ν ν' u w, (∀ j, j ∈ D i → ν j = ν' j) → F i ν u w → F i ν' u w)
    (hpers : ∀ i ν u w w', i < n → F i ν u w → Ext w w' → F i ν u w')
    (hstep : ∀ i o, i < n → l[i]? = some o → ∀ ν w1, Ext w w1 → (∀ j, j ∈ D i → F j ν (ν j) w1) → ∀ K : Act → World → Prop, (∀ u w', Ext w1 w' → F i ν u w' → K ((putL l.toArray ν n a).put o.dst u) w') → Oper.wp P o (putL l.toArray ν n a) w1 K Q)
    (htail : ∀ ν w1, Ext w w1 → (∀ i, i < n → F i ν (ν i) w1) → wpList P l.toArray Q (l.drop n) (putL l.toArray ν n a) w1) :
    (Code.region id l.toArray true).wp P Q a w := by
  refine wp_region_any hm ?_
  have inv0 : HeadInv .any l.toArray n (Array.replicate l.toArray.size false) :=
    ⟨by simp, fun j oj _ hl => (by rw [getD_replicate_false] at hl; cases hl), fun t _ ht => getD_in (by simpa using ht) (getD_replicate_false _ _)⟩
  have hn : n < l.toArray.size := by
    unfold freeRB at hB
    simp only [Bool.and_eq_true, decide_eq_true_eq] at hB
    exact hB.1.1.1.1.1
  have h := free_any (P := P) (Q := Q) (w0 := w) (a0 := a) hB hDB hcong hpers (fun i o hi ho => hstep i o hi (by simpa using ho)) (fun ν w1 hx hF => by simpa using htail ν w1 hx hF) n (Array.replicate l.toArray.size false) a w.drew
    ⟨inv0, (Ext.refl w).drew, rfl, rfl, fun s _ => rfl, fun i _ hl => (by rw [getD_replicate_false] at hl; cases hl)⟩ (by
      rw [List.filter_eq_self.2 (fun j hj => by
        have h1 : j < l.toArray.size := by have := List.mem_range.1 hj; omega
        rw [getD_in (by simpa using h1) (getD_replicate_false _ _)]
        rfl)]
      simp)
  rw [show n + (l.toArray.size - n) = l.toArray.size by omega] at h
  exact h
theorem freeRB_at {m : Nat} (hB : freeRB ops n m = true) : ∀ i, i < n → dstAt ops i < m ∧ ∀ j, j < i → dstAt ops j ≠ dstAt ops i := by
  unfold freeRB at hB
  simp only [Bool.and_eq_true, decide_eq_true_eq, List.all_eq_true, List.mem_range] at hB
  obtain ⟨⟨⟨⟨⟨hn, hs⟩, hc⟩, hseq⟩, hds⟩, hbk⟩ := hB
  intro i hi
  obtain ⟨o, ho⟩ : ∃ o, ops[i]? = some o := ⟨_, Array.getElem?_eq_getElem (by omega)⟩
  have h1 := hds i hi
  rw [ho] at h1
  simp only [Bool.and_eq_true] at h1
  obtain ⟨h1, h2⟩ := h1
  cases hdst : o.dst with
  | none => rw [hdst] at h2; cases h2
  | some d =>
    have e : dstAt ops i = d := by unfold dstAt; rw [ho]; simp [hdst]
    rw [hdst] at h2
    simp only [Bool.and_eq_true, decide_eq_true_eq, List.all_eq_true, List.mem_range, bne_iff_ne] at h2
    rw [e]
    exact h2
/-- THE LAW, the act known by what its slots tell. -/
theorem region_free2 {id : Nat} {l : List Oper} {a : Act} {w : World} (n : Nat) (F : Nat → (Nat → Value) → Value → World → Prop) (hm : P.follows .mixedOrders = true) (hB : freeRB l.toArray n a.tmps.size = true) (D : Nat → List Nat) (hDB : tabB l.toArray n D = true)
    (hcong : ∀ i, i < n → ∀ ν ν' u w, (∀ j, j ∈ D i → ν j = ν' j) → F i ν u w → F i ν' u w)
    (hpers : ∀ i ν u w w', i < n → F i ν u w → Ext w w' → F i ν u w')
    (hstep : ∀ i o, i < n → l[i]? = some o → ∀ ν w1 (A : Act), Ext w w1 → (∀ j, j < n → A.eval (.tmp (dstAt l.toArray j)) = ν j) → (∀ s, (∀ j, j < n → dstAt l.toArray j ≠ s) → A.eval (.tmp s) = a.eval (.tmp s)) → (∀ j, j ∈ D i → F j ν (ν j) w1) → ∀ K : Act → World → Prop, (∀ u w', Ext w1 w' → F i ν u w' → K (A.put o.dst u) w') → Oper.wp P o A w1 K Q)
    (htail : ∀ ν w1, Ext w w1 → (∀ i, i < n → F i ν (ν i) w1) → wpList P l.toArray Q (l.drop n) (putL l.toArray ν n a) w1) :
    (Code.region id l.toArray true).wp P Q a w := by
  have hat := freeRB_at hB
  have dist : ∀ i j, j < i → i < n → dstAt l.toArray j ≠ dstAt l.toArray i := fun i j hj hi => (hat i hi).2 j hj
  refine region_free n F hm hB D hDB hcong hpers (fun i o hi ho ν w1 hx hF K hK => ?_) htail
  refine hstep i o hi ho ν w1 (putL l.toArray ν n a) hx (fun j hj => ?_) (fun s hs => ?_) hF K hK
  · have h1 := putL_at (ν := ν) (a := a) n dist j hj (hat j hj).1
    simp [Act.eval, h1]
  · have h1 := putL_off (ν := ν) (a := a) n hs
    simp [Act.eval, h1]
end
/-- The results laid in, by the slots' numbers. -/
def putM (ν : Nat → Value) : List Nat → Nat → Act → Act
  | [], _, a => a
  | d :: ds, k, a => putM ν ds (k + 1) (a.put (some d) (ν k))
theorem putM_putL {ops : Array Oper} (ν : Nat → Value) (a : Act) : ∀ (m k : Nat), putM ν ((List.range' k m).map (dstAt ops)) k (putL ops ν k a) = putL ops ν (k + m) a
  | 0, k => rfl
  | m + 1, k => by
    rw [List.range'_succ, List.map_cons, putM]
    have h := putM_putL (ops := ops) ν a m (k + 1)
    rw [show k + (m + 1) = k + 1 + m by omega, ← h]
    rfl
/-- THE LAW, the slots given by number. -/
theorem region_free3 {P : Program} {Q : Exit → Act → World → Prop} {id : Nat} {l : List Oper} {a : Act} {w : World} (n : Nat) (ds : List Nat) (hds : (List.range n).map (dstAt l.toArray) = ds) (F : Nat → (Nat → Value) → Value → World → Prop) (hm : P.follows .mixedOrders = true) (hB : freeRB l.toArray n a.tmps.size = true) (D : Nat → List Nat) (hDB : tabB l.toArray n D = true)
    (hcong : ∀ i, i < n → ∀ ν ν' u w, (∀ j, j ∈ D i → ν j = ν' j) → F i ν u w → F i ν' u w)
    (hpers : ∀ i ν u w w', i < n → F i ν u w → Ext w w' → F i ν u w')
    (hstep : ∀ i o, i < n → l[i]? = some o → ∀ ν w1 (A : Act), Ext w w1 → (∀ j d, ds[j]? = some d → A.eval (.tmp d) = ν j) → (∀ s, ds.contains s = false → A.eval (.tmp s) = a.eval (.tmp s)) → (∀ j, j ∈ D i → F j ν (ν j) w1) → ∀ K : Act → World → Prop, Hid (∀ u w', Ext w1 w' → F i ν u w' → K (A.put o.dst u) w') → Oper.wp P o A w1 K Q)
    (htail : ∀ ν w1, Ext w w1 → (∀ i, i < n → F i ν (ν i) w1) → wpList P l.toArray Q (l.drop n) (putM ν ds 0 a) w1) :
    (Code.region id l.toArray true).wp P Q a w := by
  have hget : ∀ j d, ds[j]? = some d → j < n ∧ dstAt l.toArray j = d := fun j d h => by
    rw [← hds, List.getElem?_map] at h
    by_cases hj : j < n
    · rw [List.getElem?_range hj] at h
      exact ⟨hj, by simpa using h⟩
    · rw [List.getElem?_eq_none (by simp; omega)] at h
      cases h
  refine region_free2 n F hm hB D hDB hcong hpers (fun i o hi ho ν w1 A hx hA hO hF K hK => hstep i o hi ho ν w1 A hx (fun j d h => ?_) (fun s h => hO s (fun j hj e => ?_)) hF K (Lib.hid hK)) (fun ν w1 hx hF => ?_)
  · obtain ⟨h1, h2⟩ := hget j d h
    rw [← h2]
    exact hA j h1
  · have : s ∈ ds := by rw [← hds]; exact List.mem_map.2 ⟨j, List.mem_range.2 hj, e⟩
    rw [List.contains_eq_any_beq] at h
    have h2 := List.any_eq_false.1 h s this
    simp at h2
  · have h := htail ν w1 hx hF
    have e := putM_putL (ops := l.toArray) ν a n 0
    rw [← List.range_eq_range', hds, Nat.zero_add] at e
    rw [show putM ν ds 0 a = putL l.toArray ν n a from e] at h
    exact h
end Go.Proofs.Ytmommjagndadjaa
namespace Go.Proofs.Ytmommjagndadjaa
open Go.RowKit Go.Maps
set_option linter.unusedSimpArgs false
set_option linter.unusedVariables false
set_option maxRecDepth 100000

/-! ### Plain -/
abbrev nA : ByteArray := ⟨#[97]⟩
abbrev nC : ByteArray := ⟨#[99]⟩
abbrev onC : CK0 := [(nC, true)]
def slowC : CP := { ins := [⟨nX, 2, []⟩, ⟨nC, 1, []⟩], outs := [⟨nY, 2, []⟩], locals := [⟨nA, 2, onC⟩, ⟨nM, 2, onC⟩], eqs := [⟨2, nM, exZ, 7, nA, eB, 0, 0⟩, defE nA (.mk 9 0 0 1 nC [exV nX]), defE nY (.mk 10 0 0 0 nC [exV nM, .mk 1 0 2 (-1) eB []])] }
theorem slow_okC : okC slowC := okC_b (by decide +kernel)
theorem slow_smC : smC slowC := smC_b (by decide +kernel)
theorem slow_chk : chkC slowC = 0 := by decide +kernel
theorem slow_order : sortV (hangsV slowC) = [0, 1, 2] := by kernel_rfl
def slM (m : Option Int) : Int := match m with | none => 7 | some n => n
theorem slow_tick1 (m z1 z2 : Option Int) (x tick : Int) : tickC slowC (kindT (clksH slowC)) (clksH slowC) [0, 1, 2] [m, z1, z2] tick [x, 1] = [(nY, slM m), (nA, x), (nM, slM m), (nC, 1), (nX, x)] := by
  cases m <;> kernel_rfl
theorem slow_tick0 (m z1 z2 : Option Int) (x tick : Int) : tickC slowC (kindT (clksH slowC)) (clksH slowC) [0, 1, 2] [m, z1, z2] tick [x, 0] = [(nY, -1), (nC, 0), (nX, x)] := by
  cases m <;> kernel_rfl
theorem slow_keep1 (m z1 z2 : Option Int) (a b c d e : Int) : keepQ [(nY, a), (nA, b), (nM, c), (nC, d), (nX, e)] slowC.eqs [m, z1, z2] = [some b, z1, z2] := by kernel_rfl
theorem slow_keep0 (m z1 z2 : Option Int) (a d e : Int) : keepQ [(nY, a), (nC, d), (nX, e)] slowC.eqs [m, z1, z2] = [m, z1, z2] := by kernel_rfl
theorem slow_out1 (a b c d e : Int) : (slowC.outs.map fun v => getV [(nY, a), (nA, b), (nM, c), (nC, d), (nX, e)] v.name) = [a] := by kernel_rfl
theorem slow_out0 (a d e : Int) : (slowC.outs.map fun v => getV [(nY, a), (nC, d), (nX, e)] v.name) = [a] := by kernel_rfl
def i8 (n : Int) : Int := wrap64 (IntKind.i8.wrap n)
theorem i8_eq (n : Int) : i8 n = wkr 2 n := rfl
def slC (n : Int) : Int := if n.tmod 3 = 0 then 0 else 1
def slL (n last : Int) : Int := if n.tmod 3 = 0 then last else i8 n
def slO (n last : Int) : Int := if n.tmod 3 = 0 then -1 else last
def slR (l : List Int) : List (List Int) := l.map fun n => [i8 n, slC n]
def slV : Int → List Int → List Int
  | _, [] => []
  | last, n :: l => slO n last :: slV (slL n last) l
theorem slow_go : ∀ (l : List Int) (m z1 z2 : Option Int) (tick : Int), goC slowC (kindT (clksH slowC)) (clksH slowC) [0, 1, 2] [m, z1, z2] tick (slR l) = onesC (slV (slM m) l)
  | [], m, z1, z2, tick => rfl
  | n :: l, m, z1, z2, tick => by
    have hr : slR (n :: l) = [i8 n, slC n] :: slR l := rfl
    rw [hr, goC, slV]
    by_cases h : n.tmod 3 = 0
    · have e1 : slC n = 0 := if_pos h
      have e2 : slL n (slM m) = slM m := if_pos h
      have e3 : slO n (slM m) = -1 := if_pos h
      rw [e1, e2, e3, slow_tick0, slow_keep0, slow_out0, slow_go l]
      rfl
    · have e1 : slC n = 1 := if_neg h
      have e2 : slL n (slM m) = i8 n := if_neg h
      have e3 : slO n (slM m) = slM m := if_neg h
      rw [e1, e2, e3, slow_tick1, slow_keep1, slow_out1, slow_go l]
      rfl
theorem i8_isk (n : Int) : isk 2 (i8 n) = true := by
  rw [i8_eq]
  unfold isk
  rw [wkr_2, wkr_2, Bool.and_eq_true]
  refine ⟨by kernel_rfl, ?_⟩
  rw [beq_iff_eq]
  omega
theorem i8_64 (n : Int) : I64 (i8 n) := by
  rw [i8_eq, wkr_2]
  unfold I64
  omega
theorem slC_isk (n : Int) : isk 1 (slC n) = true := by
  unfold slC
  split <;> kernel_rfl
theorem slow_ask : ∀ l : List Int, askL [2, 1] (slR l) = 0
  | [] => rfl
  | n :: l => by
    have hr : slR (n :: l) = [i8 n, slC n] :: slR l := rfl
    have h1 : askR [2, 1] [i8 n, slC n] = 0 := by
      unfold askR
      rw [if_neg (by simp)]
      unfold askZ
      rw [i8_isk]
      unfold askZ
      rw [slC_isk]
      rfl
    rw [hr, askL, h1, if_neg (by simp), slow_ask l]
theorem slow_run (l : List Int) (hl : l.length ≤ 60) : runC slowC (slR l) = (0, onesC (slV 7 l)) := by
  unfold runC
  rw [slow_chk, if_neg (by simp)]
  have h1 : askV (slowC.ins.map VR.kind) (slR l) = 0 := by
    unfold askV
    rw [if_neg (by unfold slR; simp; omega)]
    exact slow_ask l
  rw [h1, if_neg (by simp), slow_order]
  have h2 := slow_go l none none none 0
  exact congrArg (Prod.mk 0) h2
def slA : Int → List Int → Nat → Int
  | last, _, 0 => last
  | last, [], _ + 1 => last
  | last, n :: l, j + 1 => slA (slL n last) l j
theorem slow_step : ∀ (last : Int) (l : List Int) (j : Nat) (y : Int), l[j]? = some y → (slV last l)[j]? = some (slO y (slA last l j)) ∧ slA last l (j + 1) = slL y (slA last l j)
  | _, [], _, _, h => by simp at h
  | last, x :: l, 0, y, h => by
    simp at h
    subst h
    cases l <;> exact ⟨rfl, rfl⟩
  | last, x :: l, j + 1, y, h => by
    obtain ⟨h1, h2⟩ := slow_step (slL x last) l j y (by simpa using h)
    exact ⟨by rw [slV, List.getElem?_cons_succ]; exact h1, by rw [slA]; exact h2⟩
theorem slR_64 (l : List Int) : ∀ r ∈ slR l, ∀ n ∈ r, I64 n := fun r hr n hn => by
  unfold slR at hr
  obtain ⟨b, -, rfl⟩ := List.mem_map.1 hr
  simp only [List.mem_cons, List.not_mem_nil, or_false] at hn
  rcases hn with rfl | rfl
  · exact i8_64 b
  · unfold slC; split <;> exact sm9_i64 (by decide)
theorem slV_len : ∀ (l : List Int) (n : Int), (slV n l).length = l.length
  | [], _ => rfl
  | b :: l, n => by rw [slV, List.length_cons, slV_len l, List.length_cons]
def FSl (c s0 : Nat) (i : Nat) (ν : Nat → Value) (u : Value) (w : World) : Prop :=
  match i with
  | 0 => u = .agg #[.string nX, .int .i64 2, NLc]
  | 1 => u = .agg #[.string nC, .int .i64 1, NLc]
  | 2 => ∃ b, u = .slice (some ⟨b, 0, none⟩) 2 2 ∧ w.heap[b]? = some (.cells #[.string nX, .int .i64 2, NLc, .string nC, .int .i64 1, NLc] 30 (0, 0))
  | 3 => u = .agg #[.string nY, .int .i64 2, NLc]
  | 4 => ∃ b, u = .slice (some ⟨b, 0, none⟩) 1 1 ∧ w.heap[b]? = some (.cells #[.string nY, .int .i64 2, NLc] 30 (0, 0))
  | 5 => u = .slice (some ⟨c, 0, none⟩) 1 1
  | 6 => u = .agg #[.string nA, .int .i64 2, .slice (some ⟨c, 0, none⟩) 1 1]
  | 7 => u = .slice (some ⟨c, 0, none⟩) 1 1
  | 8 => u = .agg #[.string nM, .int .i64 2, .slice (some ⟨c, 0, none⟩) 1 1]
  | 9 => ∃ b, u = .slice (some ⟨b, 0, none⟩) 2 2 ∧ w.heap[b]? = some (.cells #[.string nA, .int .i64 2, .slice (some ⟨c, 0, none⟩) 1 1, .string nM, .int .i64 2, .slice (some ⟨c, 0, none⟩) 1 1] 30 (0, 0))
  | 10 => u = .agg #[.int .i64 2, .string nM, .int .i64 0, .int .i64 0, .int .i64 0, .int .i64 0, .string eB, NLc, .int .i64 7, .string nA, .string eB, .int .i64 0, .int .i64 0]
  | 11 => u = .agg #[.int .i64 2, .int .i64 0, .int .i64 0, .int .i64 0, .string nX, NLc]
  | 12 => ∃ b, u = .slice (some ⟨b, 0, none⟩) 1 1 ∧ w.heap[b]? = some (.cells #[.int .i64 2, .int .i64 0, .int .i64 0, .int .i64 0, .string nX, NLc] 33 (0, 0))
  | 13 => u = .agg #[.int .i64 9, .int .i64 0, .int .i64 0, .int .i64 1, .string nC, ν 12]
  | 14 => u = .agg #[.int .i64 1, .string nA, .int .i64 9, .int .i64 0, .int .i64 0, .int .i64 1, .string nC, ν 12, .int .i64 0, .string eB, .string eB, .int .i64 0, .int .i64 0]
  | 15 => u = .agg #[.int .i64 2, .int .i64 0, .int .i64 0, .int .i64 0, .string nM, NLc]
  | 16 => u = .agg #[.int .i64 1, .int .i64 0, .int .i64 2, .int .i64 (-1), .string eB, NLc]
  | 17 => ∃ b, u = .slice (some ⟨b, 0, none⟩) 2 2 ∧ w.heap[b]? = some (.cells #[.int .i64 2, .int .i64 0, .int .i64 0, .int .i64 0, .string nM, NLc, .int .i64 1, .int .i64 0, .int .i64 2, .int .i64 (-1), .string eB, NLc] 33 (0, 0))
  | 18 => u = .agg #[.int .i64 10, .int .i64 0, .int .i64 0, .int .i64 0, .string nC, ν 17]
  | 19 => u = .agg #[.int .i64 1, .string nY, .int .i64 10, .int .i64 0, .int .i64 0, .int .i64 0, .string nC, ν 17, .int .i64 0, .string eB, .string eB, .int .i64 0, .int .i64 0]
  | 20 => ∃ b, u = .slice (some ⟨b, 0, none⟩) 3 3 ∧ w.heap[b]? = some (.cells #[.int .i64 2, .string nM, .int .i64 0, .int .i64 0, .int .i64 0, .int .i64 0, .string eB, NLc, .int .i64 7, .string nA, .string eB, .int .i64 0, .int .i64 0, .int .i64 1, .string nA, .int .i64 9, .int .i64 0, .int .i64 0, .int .i64 1, .string nC, ν 12, .int .i64 0, .string eB, .string eB, .int .i64 0, .int .i64 0, .int .i64 1, .string nY, .int .i64 10, .int .i64 0, .int .i64 0, .int .i64 0, .string nC, ν 17, .int .i64 0, .string eB, .string eB, .int .i64 0, .int .i64 0] 35 (0, 0))
  | 21 => u = .agg #[ν 2, ν 4, ν 9, ν 20]
  | 22 => ∃ b, u = .pointer (some ⟨b, 0, none⟩) ∧ w.heap[b]? = some (.cells #[NLc, NLc, NLc, NLc] 26 (0, 0)) ∧ s0 ≤ b
  | _ => True
def DSl (i : Nat) : List Nat :=
  match i with
  | 2 => [0, 1]
  | 4 => [3]
  | 6 => [5]
  | 8 => [7]
  | 9 => [6, 8]
  | 12 => [11]
  | 13 => [12]
  | 14 => [13, 12]
  | 17 => [15, 16]
  | 18 => [17]
  | 19 => [18, 17]
  | 20 => [10, 14, 13, 12, 19, 18, 17]
  | 21 => [2, 4, 9, 20]
  | _ => []
theorem fsl_cong (c s0 : Nat) : ∀ i, i < 23 → ∀ ν ν' u w, (∀ j, j ∈ DSl i → ν j = ν' j) → FSl c s0 i ν u w → FSl c s0 i ν' u w := by
  intro i hi ν ν' u w h hf
  match i, hi with
  | 0, _ => exact hf
  | 1, _ => exact hf
  | 2, _ => exact hf
  | 3, _ => exact hf
  | 4, _ => exact hf
  | 5, _ => exact hf
  | 6, _ => exact hf
  | 7, _ => exact hf
  | 8, _ => exact hf
  | 9, _ => exact hf
  | 10, _ => exact hf
  | 11, _ => exact hf
  | 12, _ => exact hf
  | 13, _ => unfold FSl at hf ⊢; rw [← h 12 (by simp [DSl])]; exact hf
  | 14, _ => unfold FSl at hf ⊢; rw [← h 12 (by simp [DSl])]; exact hf
  | 15, _ => exact hf
  | 16, _ => exact hf
  | 17, _ => exact hf
  | 18, _ => unfold FSl at hf ⊢; rw [← h 17 (by simp [DSl])]; exact hf
  | 19, _ => unfold FSl at hf ⊢; rw [← h 17 (by simp [DSl])]; exact hf
  | 20, _ => unfold FSl at hf ⊢; rw [← h 12 (by simp [DSl])]; rw [← h 17 (by simp [DSl])]; exact hf
  | 21, _ => unfold FSl at hf ⊢; rw [← h 2 (by simp [DSl])]; rw [← h 4 (by simp [DSl])]; rw [← h 9 (by simp [DSl])]; rw [← h 20 (by simp [DSl])]; exact hf
  | 22, _ => exact hf
  | i + 23, h => exact absurd h (by omega)
theorem fsl_pers (c s0 : Nat) : ∀ i ν u w w', i < 23 → FSl c s0 i ν u w → Ext w w' → FSl c s0 i ν u w' := by
  intro i ν u w w' hi hf hx
  match i, hi with
  | 0, _ => exact hf
  | 1, _ => exact hf
  | 2, _ => obtain ⟨b, h1, h2⟩ := hf; exact ⟨b, h1, ext_block hx h2⟩
  | 3, _ => exact hf
  | 4, _ => obtain ⟨b, h1, h2⟩ := hf; exact ⟨b, h1, ext_block hx h2⟩
  | 5, _ => exact hf
  | 6, _ => exact hf
  | 7, _ => exact hf
  | 8, _ => exact hf
  | 9, _ => obtain ⟨b, h1, h2⟩ := hf; exact ⟨b, h1, ext_block hx h2⟩
  | 10, _ => exact hf
  | 11, _ => exact hf
  | 12, _ => obtain ⟨b, h1, h2⟩ := hf; exact ⟨b, h1, ext_block hx h2⟩
  | 13, _ => exact hf
  | 14, _ => exact hf
  | 15, _ => exact hf
  | 16, _ => exact hf
  | 17, _ => obtain ⟨b, h1, h2⟩ := hf; exact ⟨b, h1, ext_block hx h2⟩
  | 18, _ => exact hf
  | 19, _ => exact hf
  | 20, _ => obtain ⟨b, h1, h2⟩ := hf; exact ⟨b, h1, ext_block hx h2⟩
  | 21, _ => exact hf
  | 22, _ => obtain ⟨b, h1, h2, h3⟩ := hf; exact ⟨b, h1, ext_block hx h2, h3⟩
  | i + 23, h => exact absurd h (by omega)
set_option maxHeartbeats 8000000 in
theorem coreSlow_any (l : List Int) (v : Value) (w : World) (hv : SlC w v l.length (i64s l)) : Calls Try.prog 8 #[v] w fun e w' => e = .returned (.bool true) ∧ Hid (Ext w w') := by
  obtain ⟨Q, hQ⟩ : ∃ Q, Q = fun e w' => e = Ending.returned (.bool true) ∧ Hid (Ext w w') := ⟨_, rfl⟩
  rw [← hQ]
  have HQ := Lib.hid hQ
  obtain ⟨p, cap, rfl, h1, h2, hc⟩ := id hv
  obtain ⟨L, hL⟩ : ∃ n, n = l.length := ⟨_, rfl⟩
  rw [← hL] at h1 ⊢
  have hcI : (cap : Int) ≤ 9223372036854775807 := by unfold maxLen at h2; omega
  have HN := Lib.hid (And.intro hL hc)
  clear hQ hv h2 hc hL
  go_enter Try.func8, Try.ntmps8
  go_upto_region 2 with (first | (go_at_call 14; refine (alive13_any _).mono ?_; rintro e1 w1 ⟨rfl, H1⟩) | fail)
  by_cases hn0 : 60 < L
  case pos =>
    have hn1 : (L : Int) > 60 := by omega
    go_wp2
    rw [HQ.out]
    exact ⟨rfl, H1⟩
  case neg =>
  have hn1 : ¬ (L : Int) > 60 := by omega
  have hn2 : L ≤ 60 := by omega
  clear hn0
  go_upto_region 6 with fail
  have hbx : BoxV (w1.heap.size + 1) [.int .i64 1, .int .i64 0, .int .i64 2, .int .i64 (-1), .string eB, NLc] ((w1.alloc (.cells #[.string nC, .bool true] 51)).alloc (.cells #[.int .i64 1, .int .i64 0, .int .i64 2, .int .i64 (-1), .string eB, NLc] 33)) := by
    refine BoxV.of_row (e := 33) (cs := #[.int .i64 1, .int .i64 0, .int .i64 2, .int .i64 (-1), .string eB, NLc]) ?_
    exact heap_alloc_at _ _ _ (by simp)
  have hcl : ((w1.alloc (.cells #[.string nC, .bool true] 51)).alloc (.cells #[.int .i64 1, .int .i64 0, .int .i64 2, .int .i64 (-1), .string eB, NLc] 33)).heap[w1.heap.size]? = some (.cells #[.string nC, .bool true] 51 (0, 0)) := by
    repeat (first | (refine heap_alloc_at _ _ _ ?_; simp; done) | (refine (Below.heap_alloc _ _ _ ?_).trans ?_; · (simp only [World.size_alloc]; omega)))
  have hxw : Ext w1 ((w1.alloc (.cells #[.string nC, .bool true] 51)).alloc (.cells #[.int .i64 1, .int .i64 0, .int .i64 2, .int .i64 (-1), .string eB, NLc] 33)) := ((Ext.refl w1).alloc _).alloc _
  generalize ((w1.alloc (.cells #[.string nC, .bool true] 51)).alloc (.cells #[.int .i64 1, .int .i64 0, .int .i64 2, .int .i64 (-1), .string eB, NLc] 33)) = wb at hbx hcl hxw ⊢
  generalize w1.heap.size + 1 = X at hbx ⊢
  generalize w1.heap.size = g at hcl ⊢
  have HX := Lib.hid (And.intro hxw hcl)
  have x0 := hbx.cells 0 _ rfl
  have x1 := hbx.cells 1 _ rfl
  have x2 := hbx.cells 2 _ rfl
  have x3 := hbx.cells 3 _ rfl
  have x4 := hbx.cells 4 _ rfl
  have x5 := hbx.cells 5 _ rfl
  have xl := hbx.lt
  clear hxw hcl hbx
  obtain ⟨c, hc⟩ : ∃ c, c = g := ⟨_, rfl⟩
  rw [← hc] at HX ⊢
  clear hc
  refine region_free3 23 [26, 27, 28, 29, 30, 31, 32, 33, 34, 35, 36, 37, 38, 39, 40, 41, 42, 43, 44, 45, 46, 47, 6] (by kernel_rfl) (FSl c wb.heap.size) (by kernel_rfl) (by kernel_rfl) DSl (by kernel_rfl) (fsl_cong c _) (fsl_pers c _) ?_ ?_
  · intro i o hi ho ν w1 A hx hA hO hF K HK
    match i, hi with
    | 0, _ =>
      obtain rfl := Option.some.inj ho
      clear hA hO hF
      go_simp
      exact HK.out _ _ (Ext.refl _) rfl
    | 1, _ =>
      obtain rfl := Option.some.inj ho
      clear hA hO hF
      go_simp
      exact HK.out _ _ (Ext.refl _) rfl
    | 2, _ =>
      obtain rfl := Option.some.inj ho
      have e0 : A.tmps[26]?.getD undef = ν 0 := by have h := hA 0 26 rfl; simpa [Act.eval] using h
      have f0 := hF 0 (by simp [DSl])
      rw [f0] at e0
      have e1 : A.tmps[27]?.getD undef = ν 1 := by have h := hA 1 27 rfl; simpa [Act.eval] using h
      have f1 := hF 1 (by simp [DSl])
      rw [f1] at e1
      clear hA hO hF
      go_simp
      exact HK.out _ _ ((Ext.refl _).alloc _) ⟨_, rfl, heap_alloc_last _ _⟩
    | 3, _ =>
      obtain rfl := Option.some.inj ho
      clear hA hO hF
      go_simp
      exact HK.out _ _ (Ext.refl _) rfl
    | 4, _ =>
      obtain rfl := Option.some.inj ho
      have e3 : A.tmps[29]?.getD undef = ν 3 := by have h := hA 3 29 rfl; simpa [Act.eval] using h
      have f3 := hF 3 (by simp [DSl])
      rw [f3] at e3
      clear hA hO hF
      go_simp
      exact HK.out _ _ ((Ext.refl _).alloc _) ⟨_, rfl, heap_alloc_last _ _⟩
    | 5, _ =>
      obtain rfl := Option.some.inj ho
      have e4 : A.tmps[4]?.getD undef = .slice (some ⟨c, 0, none⟩) 1 1 := by have h := hO 4 rfl; simpa [Act.eval] using h
      clear hA hO hF
      go_simp
      exact HK.out _ _ (Ext.refl _) rfl
    | 6, _ =>
      obtain rfl := Option.some.inj ho
      have e5 : A.tmps[31]?.getD undef = ν 5 := by have h := hA 5 31 rfl; simpa [Act.eval] using h
      have f5 := hF 5 (by simp [DSl])
      rw [f5] at e5
      clear hA hO hF
      go_simp
      exact HK.out _ _ (Ext.refl _) rfl
    | 7, _ =>
      obtain rfl := Option.some.inj ho
      have e4 : A.tmps[4]?.getD undef = .slice (some ⟨c, 0, none⟩) 1 1 := by have h := hO 4 rfl; simpa [Act.eval] using h
      clear hA hO hF
      go_simp
      exact HK.out _ _ (Ext.refl _) rfl
    | 8, _ =>
      obtain rfl := Option.some.inj ho
      have e7 : A.tmps[33]?.getD undef = ν 7 := by have h := hA 7 33 rfl; simpa [Act.eval] using h
      have f7 := hF 7 (by simp [DSl])
      rw [f7] at e7
      clear hA hO hF
      go_simp
      exact HK.out _ _ (Ext.refl _) rfl
    | 9, _ =>
      obtain rfl := Option.some.inj ho
      have e6 : A.tmps[32]?.getD undef = ν 6 := by have h := hA 6 32 rfl; simpa [Act.eval] using h
      have f6 := hF 6 (by simp [DSl])
      rw [f6] at e6
      have e8 : A.tmps[34]?.getD undef = ν 8 := by have h := hA 8 34 rfl; simpa [Act.eval] using h
      have f8 := hF 8 (by simp [DSl])
      rw [f8] at e8
      clear hA hO hF
      go_simp
      exact HK.out _ _ ((Ext.refl _).alloc _) ⟨_, rfl, heap_alloc_last _ _⟩
    | 10, _ =>
      obtain rfl := Option.some.inj ho
      clear hA hO hF
      go_simp
      exact HK.out _ _ (Ext.refl _) rfl
    | 11, _ =>
      obtain rfl := Option.some.inj ho
      clear hA hO hF
      go_simp
      go_at_call 19
      refine (var13_any nX _).mono ?_
      rintro e wk ⟨rfl, hwk⟩
      exact HK.out _ _ (by rw [hwk]; exact (Ext.refl _).alloc _) rfl
    | 12, _ =>
      obtain rfl := Option.some.inj ho
      have e11 : A.tmps[37]?.getD undef = ν 11 := by have h := hA 11 37 rfl; simpa [Act.eval] using h
      have f11 := hF 11 (by simp [DSl])
      rw [f11] at e11
      clear hA hO hF
      go_simp
      exact HK.out _ _ ((Ext.refl _).alloc _) ⟨_, rfl, heap_alloc_last _ _⟩
    | 13, _ =>
      obtain rfl := Option.some.inj ho
      have e12 : A.tmps[38]?.getD undef = ν 12 := by have h := hA 12 38 rfl; simpa [Act.eval] using h
      have f12 := hF 12 (by simp [DSl])
      clear hA hO hF
      obtain ⟨b12, g12, -⟩ := f12
      rw [g12] at e12
      go_simp
      exact HK.out _ _ (Ext.refl _) (show _ = Value.agg #[.int .i64 9, .int .i64 0, .int .i64 0, .int .i64 1, .string nC, ν 12] by rw [g12])
    | 14, _ =>
      obtain rfl := Option.some.inj ho
      have e13 : A.tmps[39]?.getD undef = ν 13 := by have h := hA 13 39 rfl; simpa [Act.eval] using h
      have f13 := hF 13 (by simp [DSl])
      rw [f13] at e13
      clear hA hO hF
      go_simp
      exact HK.out _ _ (Ext.refl _) rfl
    | 15, _ =>
      obtain rfl := Option.some.inj ho
      clear hA hO hF
      go_simp
      go_at_call 19
      refine (var13_any nM _).mono ?_
      rintro e wk ⟨rfl, hwk⟩
      exact HK.out _ _ (by rw [hwk]; exact (Ext.refl _).alloc _) rfl
    | 16, _ =>
      obtain rfl := Option.some.inj ho
      have e5 : A.tmps[5]?.getD undef = .pointer (some ⟨X, 0, none⟩) := by have h := hO 5 rfl; simpa [Act.eval] using h
      have y0 := hx.cell x0
      have y1 := hx.cell x1
      have y2 := hx.cell x2
      have y3 := hx.cell x3
      have y4 := hx.cell x4
      have y5 := hx.cell x5
      have yl := Nat.lt_of_lt_of_le xl hx.size
      clear hA hO hF
      go_simp
      exact HK.out _ _ (Ext.refl _) rfl
    | 17, _ =>
      obtain rfl := Option.some.inj ho
      have e15 : A.tmps[41]?.getD undef = ν 15 := by have h := hA 15 41 rfl; simpa [Act.eval] using h
      have f15 := hF 15 (by simp [DSl])
      rw [f15] at e15
      have e16 : A.tmps[42]?.getD undef = ν 16 := by have h := hA 16 42 rfl; simpa [Act.eval] using h
      have f16 := hF 16 (by simp [DSl])
      rw [f16] at e16
      clear hA hO hF
      go_simp
      exact HK.out _ _ ((Ext.refl _).alloc _) ⟨_, rfl, heap_alloc_last _ _⟩
    | 18, _ =>
      obtain rfl := Option.some.inj ho
      have e17 : A.tmps[43]?.getD undef = ν 17 := by have h := hA 17 43 rfl; simpa [Act.eval] using h
      have f17 := hF 17 (by simp [DSl])
      clear hA hO hF
      obtain ⟨b17, g17, -⟩ := f17
      rw [g17] at e17
      go_simp
      exact HK.out _ _ (Ext.refl _) (show _ = Value.agg #[.int .i64 10, .int .i64 0, .int .i64 0, .int .i64 0, .string nC, ν 17] by rw [g17])
    | 19, _ =>
      obtain rfl := Option.some.inj ho
      have e18 : A.tmps[44]?.getD undef = ν 18 := by have h := hA 18 44 rfl; simpa [Act.eval] using h
      have f18 := hF 18 (by simp [DSl])
      rw [f18] at e18
      clear hA hO hF
      go_simp
      exact HK.out _ _ (Ext.refl _) rfl
    | 20, _ =>
      obtain rfl := Option.some.inj ho
      have e10 : A.tmps[36]?.getD undef = ν 10 := by have h := hA 10 36 rfl; simpa [Act.eval] using h
      have f10 := hF 10 (by simp [DSl])
      rw [f10] at e10
      have e14 : A.tmps[40]?.getD undef = ν 14 := by have h := hA 14 40 rfl; simpa [Act.eval] using h
      have f14 := hF 14 (by simp [DSl])
      rw [f14] at e14
      have e19 : A.tmps[45]?.getD undef = ν 19 := by have h := hA 19 45 rfl; simpa [Act.eval] using h
      have f19 := hF 19 (by simp [DSl])
      rw [f19] at e19
      clear hA hO hF
      go_simp
      exact HK.out _ _ ((Ext.refl _).alloc _) ⟨_, rfl, heap_alloc_last _ _⟩
    | 21, _ =>
      obtain rfl := Option.some.inj ho
      have e2 : A.tmps[28]?.getD undef = ν 2 := by have h := hA 2 28 rfl; simpa [Act.eval] using h
      have f2 := hF 2 (by simp [DSl])
      have e4 : A.tmps[30]?.getD undef = ν 4 := by have h := hA 4 30 rfl; simpa [Act.eval] using h
      have f4 := hF 4 (by simp [DSl])
      have e9 : A.tmps[35]?.getD undef = ν 9 := by have h := hA 9 35 rfl; simpa [Act.eval] using h
      have f9 := hF 9 (by simp [DSl])
      have e20 : A.tmps[46]?.getD undef = ν 20 := by have h := hA 20 46 rfl; simpa [Act.eval] using h
      have f20 := hF 20 (by simp [DSl])
      clear hA hO hF
      obtain ⟨b2, g2, -⟩ := f2
      rw [g2] at e2
      obtain ⟨b4, g4, -⟩ := f4
      rw [g4] at e4
      obtain ⟨b9, g9, -⟩ := f9
      rw [g9] at e9
      obtain ⟨b20, g20, -⟩ := f20
      rw [g20] at e20
      go_simp
      exact HK.out _ _ (Ext.refl _) (show _ = Value.agg #[ν 2, ν 4, ν 9, ν 20] by rw [g2, g4, g9, g20])
    | 22, _ =>
      obtain rfl := Option.some.inj ho
      clear hA hO hF
      go_simp
      exact HK.out _ _ ((Ext.refl _).alloc _) ⟨_, rfl, heap_alloc_last _ _, hx.size⟩
    | i + 23, h => exact absurd h (by omega)
  · intro ν w5 hx hF
    obtain ⟨b2, v2, h2⟩ := hF 2 (by omega)
    obtain ⟨b4, v4, h4⟩ := hF 4 (by omega)
    obtain ⟨b9, v9, h9⟩ := hF 9 (by omega)
    obtain ⟨b12, v12, h12⟩ := hF 12 (by omega)
    obtain ⟨b17, v17, h17⟩ := hF 17 (by omega)
    obtain ⟨b20, v20, h20⟩ := hF 20 (by omega)
    have v21 : ν 21 = .agg #[ν 2, ν 4, ν 9, ν 20] := hF 21 (by omega)
    rw [v2, v4, v9, v20] at v21
    obtain ⟨b22, v22, h22, hs22⟩ := hF 22 (by omega)
    rw [v12, v17] at h20
    have HB := Lib.hid (And.intro h2 (And.intro h4 (And.intro h9 (And.intro h12 (And.intro h17 (And.intro h20 h22))))))
    have HX5 := Lib.hid hx
    have HS22 := Lib.hid hs22
    have hb5 : BoxV b22 [NLc, NLc, NLc, NLc] w5 := BoxV.of_row h22
    have z0 := hb5.cells 0 _ rfl
    have z1 := hb5.cells 1 _ rfl
    have z2 := hb5.cells 2 _ rfl
    have z3 := hb5.cells 3 _ rfl
    have zl := hb5.lt
    have zf := hb5.fz
    clear hs22 hF h2 h4 h9 h12 h17 h20 h22 hx x0 x1 x2 x3 x4 x5 xl hb5
    simp only [List.drop_succ_cons, List.drop_zero, putM, Nat.zero_add, Nat.reduceAdd, Act.put, List.setIfInBounds_toArray, List.set_cons_zero, List.set_cons_succ, v21, v22]
    go_upto_region 7 with fail
    have hkb : Kb [b22] w5 ((((w5.setCell ⟨b22, 0, none⟩ (.slice (some ⟨b2, 0, none⟩) 2 2)).setCell ⟨b22, 1, none⟩ (.slice (some ⟨b4, 0, none⟩) 1 1)).setCell ⟨b22, 2, none⟩ (.slice (some ⟨b9, 0, none⟩) 2 2)).setCell ⟨b22, 3, none⟩ (.slice (some ⟨b20, 0, none⟩) 3 3)) := (((Kb.set _ _ _ (by simp) _).trans (Kb.set _ _ _ (by simp) _)).trans (Kb.set _ _ _ (by simp) _)).trans (Kb.set _ _ _ (by simp) _)
    have hbx6 : BoxV b22 [.slice (some ⟨b2, 0, none⟩) 2 2, .slice (some ⟨b4, 0, none⟩) 1 1, .slice (some ⟨b9, 0, none⟩) 2 2, .slice (some ⟨b20, 0, none⟩) 3 3] ((((w5.setCell ⟨b22, 0, none⟩ (.slice (some ⟨b2, 0, none⟩) 2 2)).setCell ⟨b22, 1, none⟩ (.slice (some ⟨b4, 0, none⟩) 1 1)).setCell ⟨b22, 2, none⟩ (.slice (some ⟨b9, 0, none⟩) 2 2)).setCell ⟨b22, 3, none⟩ (.slice (some ⟨b20, 0, none⟩) 3 3)) := by
      have h0 : BoxV b22 [NLc, NLc, NLc, NLc] w5 := BoxV.of_row HB.out.2.2.2.2.2.2
      exact ((((h0.put 0 _).put 1 _).put 2 _).put 3 _).cast rfl
    have hwb : w1.heap.size ≤ b22 := Nat.le_trans HX.out.1.size HS22.out
    have hcp : CPIn ((((w5.setCell ⟨b22, 0, none⟩ (.slice (some ⟨b2, 0, none⟩) 2 2)).setCell ⟨b22, 1, none⟩ (.slice (some ⟨b4, 0, none⟩) 1 1)).setCell ⟨b22, 2, none⟩ (.slice (some ⟨b9, 0, none⟩) 2 2)).setCell ⟨b22, 3, none⟩ (.slice (some ⟨b20, 0, none⟩) 3 3)) slowC ⟨.slice (some ⟨b2, 0, none⟩) 2 2, .slice (some ⟨b4, 0, none⟩) 1 1, .slice (some ⟨b9, 0, none⟩) 2 2, .slice (some ⟨b20, 0, none⟩) 3 3⟩ := by
      obtain ⟨h2, h4, h9, h12, h17, h20, h22⟩ := HB.out
      have hc5 := ext_block HX5.out HX.out.2
      have k2 := hkb.heap (by intro e; simp at e; subst e; rw [h22] at h2; simp at h2) h2
      have k4 := hkb.heap (by intro e; simp at e; subst e; rw [h22] at h4; simp at h4) h4
      have k9 := hkb.heap (by intro e; simp at e; subst e; rw [h22] at h9; simp at h9) h9
      have k12 := hkb.heap (by intro e; simp at e; subst e; rw [h22] at h12; simp at h12) h12
      have k17 := hkb.heap (by intro e; simp at e; subst e; rw [h22] at h17; simp at h17) h17
      have k20 := hkb.heap (by intro e; simp at e; subst e; rw [h22] at h20; simp at h20) h20
      have kc := hkb.heap (by intro e; simp at e; subst e; rw [h22] at hc5; simp at hc5) hc5
      have hed : EdIn ((((w5.setCell ⟨b22, 0, none⟩ (.slice (some ⟨b2, 0, none⟩) 2 2)).setCell ⟨b22, 1, none⟩ (.slice (some ⟨b4, 0, none⟩) 1 1)).setCell ⟨b22, 2, none⟩ (.slice (some ⟨b9, 0, none⟩) 2 2)).setCell ⟨b22, 3, none⟩ (.slice (some ⟨b20, 0, none⟩) 3 3)) (.slice (some ⟨c, 0, none⟩) 1 1) onC := SlC.blk kc 1 1 _ (by decide) (by decide) rfl
      refine ⟨VRIn.blk (l := slowC.ins) k2 (by decide) (by simp [slowC]) rfl, VRIn.blk (l := slowC.outs) k4 (by decide) (by simp [slowC]) rfl, ⟨[.slice (some ⟨c, 0, none⟩) 1 1, .slice (some ⟨c, 0, none⟩) 1 1], rfl, SlC.blk k9 2 2 _ (by decide) (by decide) rfl, fun i x q h1 h2 => ?_⟩, QIn.blk (l := slowC.eqs) [NLc, .slice (some ⟨b12, 0, none⟩) 1 1, .slice (some ⟨b17, 0, none⟩) 2 2] k20 (by decide) rfl (fun i q kv h1 h2 => ?_) rfl⟩
      · rcases i with _ | _ | i
        · simp [slowC] at h1 h2; subst h1 h2; exact hed
        · simp [slowC] at h1 h2; subst h1 h2; exact hed
        · simp [slowC] at h1
      · rcases i with _ | _ | _ | i
        · simp [slowC] at h1 h2; subst h1 h2; exact KIn.none _ _ _ _ _ _
        · simp [slowC] at h1 h2; subst h1 h2
          exact KIn.of (kvs := [NLc]) (SlC.blk k12 1 1 _ (by decide) (by decide) rfl) (KsIn.consc (KIn.none _ _ _ _ _ _) (KsIn.nilc _))
        · simp [slowC] at h1 h2; subst h1 h2
          exact KIn.of (kvs := [NLc, NLc]) (SlC.blk k17 2 2 _ (by decide) (by decide) rfl) (KsIn.consc (KIn.none _ _ _ _ _ _) (KsIn.consc (KIn.none _ _ _ _ _ _) (KsIn.nilc _)))
        · simp [slowC] at h1
    have hx6 : Ext w1 ((((w5.setCell ⟨b22, 0, none⟩ (.slice (some ⟨b2, 0, none⟩) 2 2)).setCell ⟨b22, 1, none⟩ (.slice (some ⟨b4, 0, none⟩) 1 1)).setCell ⟨b22, 2, none⟩ (.slice (some ⟨b9, 0, none⟩) 2 2)).setCell ⟨b22, 3, none⟩ (.slice (some ⟨b20, 0, none⟩) 3 3)) := hkb.ext (HX.out.1.trans HX5.out) (by simp; exact hwb)
    clear z0 z1 z2 z3 zl zf v2 v4 v9 v12 v17 v20 v21 v22 hkb hwb
    generalize ((((w5.setCell ⟨b22, 0, none⟩ (.slice (some ⟨b2, 0, none⟩) 2 2)).setCell ⟨b22, 1, none⟩ (.slice (some ⟨b4, 0, none⟩) 1 1)).setCell ⟨b22, 2, none⟩ (.slice (some ⟨b9, 0, none⟩) 2 2)).setCell ⟨b22, 3, none⟩ (.slice (some ⟨b20, 0, none⟩) 3 3)) = w6 at hbx6 hcp hx6 ⊢
    have HB6 := Lib.hid (And.intro hbx6 (And.intro hcp (H1.out.trans hx6)))
    have HL6 : Hid (∀ (k : Nat) (u : Value), (i64s l)[k]? = some u → ∃ b o, p = some ⟨b, o, none⟩ ∧ w6.cell? ⟨b, o + k, none⟩ = some u) := Lib.hid (fun k u hu => by
      obtain ⟨b, o, e, h⟩ := HN.out.2 k u hu
      exact ⟨b, o, e, (H1.out.trans hx6).cell h⟩)
    clear hbx6 hcp hx6 HX HX5 HB HS22
    go_upto_region 11 with fail
    go_loopw [7, 8, 9, 10] (fun a b c i wr => ∃ (j : Nat) (n : Int) (p4 p5 : Option Addr) (c4 c5 : Nat) (xs ys : List Value), j ≤ L ∧ i = .int .i64 (j : Int) ∧ c = .int .i64 n ∧ a = .slice p4 j c4 ∧ b = .slice p5 j c5 ∧ Hid (TwoR w6 (.slice p4 j c4) (.slice p5 j c5) xs ys (slR (l.take j)) (onesC ((slV 7 l).take j)) wr ∧ xs.length = j ∧ ys.length = j) ∧ Hid (n = slA 7 l j)) (fun _ _ _ i _ => L - (intOf i).toNat)
    case atStart => exact ⟨0, 7, none, none, 0, 0, [], [], Nat.zero_le _, rfl, rfl, rfl, rfl, Lib.hid ⟨TwoR.nil (Ext.refl _), rfl, rfl⟩, Lib.hid (by unfold slA; rfl)⟩
    case round =>
      obtain ⟨j, n, p4, p5, c4, c5, xs, ys, hj, rfl, rfl, rfl, rfl, HO, HV⟩ := hrel
      by_cases hlt : j < L
      · have hji : (j : Int) < (L : Int) := Int.ofNat_lt.2 hlt
        obtain ⟨y, hbb⟩ : ∃ z, l[j]? = some z := ⟨_, List.getElem?_eq_getElem (by rw [← HN.out.1]; exact hlt)⟩
        obtain ⟨b, o, rfl, f1⟩ := HL6.out j (.int .i64 y) (by unfold i64s; rw [List.getElem?_map, hbb]; rfl)
        have f3 := HO.out.1.fst.ext.cell f1
        have z1 : b < wr.heap.size := World.block_lt_of_cell? wr _ f3
        have hjc : j < cap := by omega
        have HB := Lib.hid hbb
        clear hbb f1
        have hsw : w6.heap.size ≤ wr.heap.size := HO.out.1.fst.ext.size
        by_cases hz : y.tmod 3 = 0
        case pos =>
          have hzq : (y.tmod 3 == 0) = true := by simpa using hz
          go_upto_region 15 with fail
          obtain ⟨v8, hv8⟩ : ∃ z, z = i8 y := ⟨_, rfl⟩
          have HV8 := Lib.hid hv8
          rw [show wrap64 (IntKind.i8.wrap y) = v8 from hv8.symm]
          clear hv8
          go_upto_region 16 with (first | (at_builtin; (refine wpList_append_slc _ rfl (.tmp 66) (.tmp 69) 42 rfl w6.heap.size 36 (.slice none 0 0) 1 24 Try.underlying42 infoRows rfl (by decide) (.slice p4 j c4) xs.length xs rfl (ownsRow_ext HO.out.1.fst.top (by repeat first | exact Ext.refl _ | assumption | refine Ext.drew ?_ | refine Ext.drewN ?_ _ | refine Ext.extBy ?_ _ | refine Ext.alloc ?_ _ | refine Ext.setCell ?_ (by simp; try omega) _ | (refine Ext.trans ?_ (by assumption)))) _ 1 [.slice (some ⟨wr.heap.size, 0, none⟩) 2 2] rfl (SlC.fresh _ #[.slice (some ⟨wr.heap.size, 0, none⟩) 2 2] _ 1 _ (by simp) (by decide)) rfl (by simp [Value.oneCell']) (by unfold maxLen; (have := HO.out.2.1; omega)) (by (have := HO.out.2.1; omega)) (by simp; omega) ?_; intro v9 w9 hown9 hg9 hat9; obtain ⟨x9, y9, z9, rfl⟩ := own_slice3 hown9; have HP9 := Lib.hid (And.intro hown9 (And.intro hg9 hat9)); clear hown9 hg9 hat9)) | fail)
          obtain rfl : y9 = j + 1 := by
            obtain ⟨a', c', e, -⟩ := SlC.of_owns HP9.out.1
            simp at e
            rw [e.2.1, HO.out.2.1]
          have HT1 := Lib.hid (HO.out.1.push #[.int .i64 v8, .int .i64 0] [v8, 0] rfl (show 2 ≤ maxLen by decide) HP9.out.2.1 HP9.out.1 HP9.out.2.2)
          have hs9 := HT1.out.fst.ext.size
          go_wp2_with (first | (at_builtin; (refine wpList_append_slc _ rfl (.tmp 71) (.tmp 73) 42 rfl w6.heap.size 36 (.slice none 0 0) 1 24 Try.underlying42 infoRows rfl (by decide) (.slice p5 j c5) ys.length ys rfl (ownsRow_ext HT1.out.snd.top (by repeat first | exact Ext.refl _ | assumption | refine Ext.drew ?_ | refine Ext.drewN ?_ _ | refine Ext.extBy ?_ _ | refine Ext.alloc ?_ _ | refine Ext.setCell ?_ (by simp; try omega) _ | (refine Ext.trans ?_ (by assumption)))) _ 1 [.slice (some ⟨w9.heap.size, 0, none⟩) 1 1] rfl (SlC.fresh _ #[.slice (some ⟨w9.heap.size, 0, none⟩) 1 1] _ 1 _ (by simp) (by decide)) rfl (by simp [Value.oneCell']) (by unfold maxLen; (have := HO.out.2.2; omega)) (by (have := HO.out.2.2; omega)) (by simp; omega) ?_; intro v7 w8 hown9 hg9 hat9; obtain ⟨x8, y8, z8, rfl⟩ := own_slice3 hown9; have HP8 := Lib.hid (And.intro hown9 (And.intro hg9 hat9)); clear hown9 hg9 hat9)) | fail)
          obtain rfl : y8 = j + 1 := by
            obtain ⟨a', c', e, -⟩ := SlC.of_owns HP8.out.1
            simp at e
            rw [e.2.1, HO.out.2.2]
          have ht2 := (HT1.out.swap.push #[.int .i64 ((-1))] [(-1)] rfl (show 1 ≤ maxLen by decide) HP8.out.2.1 HP8.out.1 HP8.out.2.2).swap
          obtain ⟨hk1, hk2⟩ := slow_step 7 l j y HB.out
          rw [← HV.out] at hk1 hk2
          have e1 : slC y = 0 := if_pos hz
          have e2 : slO y n = (-1) := if_pos hz
          have e3 : slL y n = n := if_pos hz
          refine ⟨⟨j + 1, n, x9, x8, z9, z8, xs ++ [.slice (some ⟨wr.heap.size, 0, none⟩) 2 2], ys ++ [.slice (some ⟨w9.heap.size, 0, none⟩) 1 1], by omega, by go_num, rfl, rfl, rfl, Lib.hid ⟨?_, by simp [HO.out.2.1], by simp [HO.out.2.2]⟩, Lib.hid (by rw [hk2, e3])⟩, by simp [intOf]; omega⟩
          rw [List.take_add_one, HB.out, List.take_add_one, hk1, e2]
          unfold slR onesC at ht2 ⊢
          rw [List.map_append, List.map_append]
          show TwoR w6 _ _ _ _ (_ ++ [[i8 y, slC y]]) _ w8
          rw [e1, ← HV8.out]
          exact ht2
        case neg =>
          have hzq : (y.tmod 3 == 0) = false := by simpa using hz
          go_upto_region 17 with fail
          obtain ⟨v8, hv8⟩ : ∃ z, z = i8 y := ⟨_, rfl⟩
          have HV8 := Lib.hid hv8
          rw [show wrap64 (IntKind.i8.wrap y) = v8 from hv8.symm]
          clear hv8
          go_upto_region 18 with (first | (at_builtin; (refine wpList_append_slc _ rfl (.tmp 75) (.tmp 78) 42 rfl w6.heap.size 36 (.slice none 0 0) 1 24 Try.underlying42 infoRows rfl (by decide) (.slice p4 j c4) xs.length xs rfl (ownsRow_ext HO.out.1.fst.top (by repeat first | exact Ext.refl _ | assumption | refine Ext.drew ?_ | refine Ext.drewN ?_ _ | refine Ext.extBy ?_ _ | refine Ext.alloc ?_ _ | refine Ext.setCell ?_ (by simp; try omega) _ | (refine Ext.trans ?_ (by assumption)))) _ 1 [.slice (some ⟨wr.heap.size, 0, none⟩) 2 2] rfl (SlC.fresh _ #[.slice (some ⟨wr.heap.size, 0, none⟩) 2 2] _ 1 _ (by simp) (by decide)) rfl (by simp [Value.oneCell']) (by unfold maxLen; (have := HO.out.2.1; omega)) (by (have := HO.out.2.1; omega)) (by simp; omega) ?_; intro v9 w9 hown9 hg9 hat9; obtain ⟨x9, y9, z9, rfl⟩ := own_slice3 hown9; have HP9 := Lib.hid (And.intro hown9 (And.intro hg9 hat9)); clear hown9 hg9 hat9)) | fail)
          obtain rfl : y9 = j + 1 := by
            obtain ⟨a', c', e, -⟩ := SlC.of_owns HP9.out.1
            simp at e
            rw [e.2.1, HO.out.2.1]
          have HT1 := Lib.hid (HO.out.1.push #[.int .i64 v8, .int .i64 1] [v8, 1] rfl (show 2 ≤ maxLen by decide) HP9.out.2.1 HP9.out.1 HP9.out.2.2)
          have hs9 := HT1.out.fst.ext.size
          go_wp2_with (first | (at_builtin; (refine wpList_append_slc _ rfl (.tmp 80) (.tmp 83) 42 rfl w6.heap.size 36 (.slice none 0 0) 1 24 Try.underlying42 infoRows rfl (by decide) (.slice p5 j c5) ys.length ys rfl (ownsRow_ext HT1.out.snd.top (by repeat first | exact Ext.refl _ | assumption | refine Ext.drew ?_ | refine Ext.drewN ?_ _ | refine Ext.extBy ?_ _ | refine Ext.alloc ?_ _ | refine Ext.setCell ?_ (by simp; try omega) _ | (refine Ext.trans ?_ (by assumption)))) _ 1 [.slice (some ⟨w9.heap.size, 0, none⟩) 1 1] rfl (SlC.fresh _ #[.slice (some ⟨w9.heap.size, 0, none⟩) 1 1] _ 1 _ (by simp) (by decide)) rfl (by simp [Value.oneCell']) (by unfold maxLen; (have := HO.out.2.2; omega)) (by (have := HO.out.2.2; omega)) (by simp; omega) ?_; intro v7 w8 hown9 hg9 hat9; obtain ⟨x8, y8, z8, rfl⟩ := own_slice3 hown9; have HP8 := Lib.hid (And.intro hown9 (And.intro hg9 hat9)); clear hown9 hg9 hat9)) | fail)
          obtain rfl : y8 = j + 1 := by
            obtain ⟨a', c', e, -⟩ := SlC.of_owns HP8.out.1
            simp at e
            rw [e.2.1, HO.out.2.2]
          have ht2 := (HT1.out.swap.push #[.int .i64 (n)] [n] rfl (show 1 ≤ maxLen by decide) HP8.out.2.1 HP8.out.1 HP8.out.2.2).swap
          obtain ⟨hk1, hk2⟩ := slow_step 7 l j y HB.out
          rw [← HV.out] at hk1 hk2
          have e1 : slC y = 1 := if_neg hz
          have e2 : slO y n = n := if_neg hz
          have e3 : slL y n = v8 := (if_neg hz).trans HV8.out.symm
          refine ⟨⟨j + 1, v8, x9, x8, z9, z8, xs ++ [.slice (some ⟨wr.heap.size, 0, none⟩) 2 2], ys ++ [.slice (some ⟨w9.heap.size, 0, none⟩) 1 1], by omega, by go_num, rfl, rfl, rfl, Lib.hid ⟨?_, by simp [HO.out.2.1], by simp [HO.out.2.2]⟩, Lib.hid (by rw [hk2, e3])⟩, by simp [intOf]; omega⟩
          rw [List.take_add_one, HB.out, List.take_add_one, hk1, e2]
          unfold slR onesC at ht2 ⊢
          rw [List.map_append, List.map_append]
          show TwoR w6 _ _ _ _ (_ ++ [[i8 y, slC y]]) _ w8
          rw [e1, ← HV8.out]
          exact ht2
      · have hji : ¬ (j : Int) < (L : Int) := fun e => hlt (Int.ofNat_lt.1 e)
        obtain rfl : j = L := by omega
        have HRS : Hid (RowsIn wr (.slice p4 j c4) xs (slR l) ∧ RowsIn wr (.slice p5 j c5) ys (onesC (slV 7 l)) ∧ Ext w6 wr) := Lib.hid (by
          have h1 := HO.out.1.fst.rows
          have h2 := HO.out.1.snd.rows
          have h3 : (slV 7 l).length = l.length := slV_len l 7
          rw [HN.out.1] at h1 h2
          rw [List.take_length] at h1
          have h4 : ((slV 7 l).take l.length) = slV 7 l := by rw [← h3, List.take_length]
          rw [h4] at h2
          rw [← HN.out.1] at h1 h2
          exact ⟨h1, h2, HO.out.1.fst.ext⟩)
        have b6 := HB6.out.1.ext HRS.out.2.2
        have u0 := b6.cells 0 _ rfl
        have u1 := b6.cells 1 _ rfl
        have u2 := b6.cells 2 _ rfl
        have u3 := b6.cells 3 _ rfl
        have ul := b6.lt
        have HCR : Hid (Calls Try.prog 16 #[.agg #[.slice (some ⟨b2, 0, none⟩) 2 2, .slice (some ⟨b4, 0, none⟩) 1 1, .slice (some ⟨b9, 0, none⟩) 2 2, .slice (some ⟨b20, 0, none⟩) 3 3], .slice p4 j c4] wr (fun e w'' => ∃ v' vs', e = .returned (.tuple #[v', .int .i64 0]) ∧ Hid (RowsIn w'' v' vs' (onesC (slV 7 l)) ∧ Ext wr w''))) := Lib.hid (by
          refine (crun_any slowC ⟨.slice (some ⟨b2, 0, none⟩) 2 2, .slice (some ⟨b4, 0, none⟩) 1 1, .slice (some ⟨b9, 0, none⟩) 2 2, .slice (some ⟨b20, 0, none⟩) 3 3⟩ _ _ _ wr (HB6.out.2.1.ext HRS.out.2.2) slow_smC slow_okC HRS.out.1 (slR_64 l)).mono ?_
          rintro e w'' ⟨v', vs', h1, h2, h3⟩
          rw [slow_run l (by rw [← HN.out.1]; exact hn2)] at h1 h2
          exact ⟨v', vs', h1, Lib.hid ⟨h2, h3⟩⟩)
        clear b6
        go_wp2_with (first
          | (go_at_call 16; refine HCR.out.mono ?_; rintro e3 wf ⟨v6, vs6, rfl, H6⟩)
          | (go_at_call 17; refine (num13_any _ _).mono ?_; rintro e8 w8 ⟨rfl, rfl⟩)
          | (go_at_call 21; refine (sameRows_any H6.out.1 (HRS.out.2.1.ext H6.out.2)).mono ?_; rintro ec wg ⟨rfl, hxc⟩)
          | (go_at_call 22; refine (rowsC_any [] _ _ (SlC.nil _) (by decide)).mono ?_; rintro ed wh ⟨vr, vsr, rfl, hrr, hxd⟩; obtain ⟨ar, cr, rfl, -, -, -⟩ := id hrr.top; clear hrr) | fail)
        rw [HQ.out]
        exact ⟨rfl, Lib.hid (HB6.out.2.2.trans (HRS.out.2.2.trans (H6.out.2.trans (hxc.trans hxd))))⟩
theorem coreSlow_law (l : List Int) (v : Value) (w : World) (hv : SlC w v l.length (i64s l)) : Calls Try.prog 8 #[v] w fun e w' => e = .returned (.bool true) ∧ Ext w w' :=
  (coreSlow_any l v w hv).mono fun _ _ h => ⟨h.1, h.2.out⟩
end Go.Proofs.Ytmommjagndadjaa

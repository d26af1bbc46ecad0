/-
  More steps of the walk: a copy into an owned row; cuts of slices.
  No condition.
-/
import Derived.Test.YtkjgghbdpmkmoaaKit7
import Derived.Laws.CopyOwn
import Derived.Laws.OwnMore
namespace Go.Proofs.Ytkjgghbdpmkmoaa
open Go.RowKit
set_option linter.unusedSimpArgs false
set_option linter.unusedVariables false
set_option maxRecDepth 100000

theorem splice_take {α : Type} (L : List α) (off : Nat) (cs : List α) (n : Nat) (h : off + cs.length ≤ n) (hn : n ≤ L.length) : (splice L off cs).take n = splice (L.take n) off cs := by
  unfold splice
  rw [List.take_append, List.take_append, List.take_take, List.length_take, Nat.min_eq_left (by omega : off ≤ L.length), List.take_of_length_le (by omega : cs.length ≤ n - off)]
  rw [Nat.min_eq_right (by omega : off ≤ n), List.take_take, Nat.min_eq_left (by omega : off ≤ n), List.drop_take, show n - (off + cs.length) = n - off - cs.length by omega]
theorem kb_setRow (w : World) (g : Nat) (cs : Array Value) : Kb [g] w (w.setRow g cs) :=
  ⟨rfl, rfl, rfl, by simp [World.setRow], fun k hk h1 => setRow_other w g k cs (fun e => h1 (by rw [e]; simp))⟩
section
variable {P : Program} {w : World}
theorem wp_copy_row {o : Oper} {a : Act} {K : Act → World → Prop} {Q : Exit → Act → World → Prop} (d s : Operand) (dT sT : TypeId)
    (ho : o.op = .call { callee := .builtin .copy, args := #[d, s], argTypes := #[dT, sT] }) (elem : TypeId) (hu : P.underlying dT = some (.slice elem)) (hsz : (P.info? elem).map (·.size) = some 1)
    (base n : Nat) (e : TypeId) (v : Value) (xs : List Value) (hown : w.ownsRow base e 1 v n xs)
    (dp sp : Option Addr) (dLen dCap sLen sCap : Nat) (hd : a.eval d = .slice dp dLen dCap) (hs : a.eval s = .slice sp sLen sCap) (off : Nat) (cs : List Value) (hcs : cs.length = sLen) (hle : sLen ≤ dLen) (hfit : off + sLen ≤ n) (h1 : ∀ u ∈ cs, u.oneCell' = true)
    (hpos : 0 < sLen → (∃ g, v.ownBlock = some g ∧ dp = some ⟨g, off, none⟩) ∧ ∃ ad, sp = some ad ∧ ∀ j u, cs[j]? = some u → w.cell? (ad.add j) = some u)
    (h : ∀ w', w'.ownsRow base e 1 v n (splice xs off cs) → Kb v.ownBlock.toList w w' → K (a.put o.dst (goInt sLen)) w') : o.wp P a w K Q := by
  by_cases h0 : sLen = 0
  · subst h0
    obtain rfl : cs = [] := List.eq_nil_of_length_eq_zero hcs
    have hrun := run_copy_none (P := P) w dT sT o.type elem dp sp dLen dCap 0 sCap hu hsz (Nat.zero_min _)
    unfold Oper.wp
    simp [execOp, ho, resolve, invoke, builtin, hd, hs, hrun, Result.andThen]
    refine h w ?_ (Kb.refl _ _)
    unfold splice
    simpa using hown
  · obtain ⟨⟨g, hg, rfl⟩, ad, rfl, hsrc⟩ := hpos (by omega)
    obtain ⟨e1, e2⟩ := hown
    rcases e2 with ⟨rfl, _⟩ | ⟨g', cap, cur, rfl, hb, hh, hn, hc, hz, ht⟩
    · cases hg
    · simp only [Value.ownBlock, Option.some.injEq] at hg
      subst hg
      have hz' : cur.size = cap := by rw [hz, Nat.mul_one]
      have hrun := run_copy_row (P := P) w dT sT o.type elem g' off dLen dCap ad sLen sCap cur e cs hu hsz hh (by rw [hcs]; exact (Nat.min_eq_left hle).symm) hsrc (by omega) h1
      unfold Oper.wp
      simp [execOp, ho, resolve, invoke, builtin, hd, hs, hrun, Result.andThen, hcs]
      rw [Nat.mul_one] at e1 ht
      refine h _ ⟨by rw [Nat.mul_one, length_splice _ _ _ (by omega)]; exact e1, .inr ⟨g', cap, (splice cur.toList off cs).toArray, rfl, hb, ?_, hn, hc, ?_, ?_⟩⟩ (kb_setRow w g' _)
      · have := setRow_heap w g' cur (cur.toList.take off ++ (cs ++ cur.toList.drop (off + cs.length))).toArray e (0, 0) hh
        simpa [splice, hcs] using this
      · simp only [List.size_toArray]
        rw [length_splice _ _ _ (by simp; omega)]; simpa using hz
      · rw [Nat.mul_one, ← ht]
        exact splice_take _ _ _ _ (by omega) (by simp; omega)
theorem wpList_copy_row' {ops : Array Oper} {rest : List Oper} {o : Oper} {a : Act} {Q : Exit → Act → World → Prop} (hgd : o.guard = none) (d s : Operand) (dT sT : TypeId)
    (ho : o.op = .call { callee := .builtin .copy, args := #[d, s], argTypes := #[dT, sT] }) (elem : TypeId) (hu : P.underlying dT = some (.slice elem)) (hsz : (P.info? elem).map (·.size) = some 1)
    (base n : Nat) (e : TypeId) (v : Value) (xs : List Value) (hown : w.ownsRow base e 1 v n xs)
    (dp sp : Option Addr) (dLen dCap sLen sCap : Nat) (hd : a.eval d = .slice dp dLen dCap) (hs : a.eval s = .slice sp sLen sCap) (off : Nat) (cs : List Value) (hcs : cs.length = sLen) (hle : sLen ≤ dLen) (hfit : off + sLen ≤ n) (h1 : ∀ u ∈ cs, u.oneCell' = true)
    (hpos : 0 < sLen → (∃ g, v.ownBlock = some g ∧ dp = some ⟨g, off, none⟩) ∧ ∃ ad, sp = some ad ∧ ∀ j u, cs[j]? = some u → w.cell? (ad.add j) = some u)
    (h : ∀ w', w'.ownsRow base e 1 v n (splice xs off cs) → Kb v.ownBlock.toList w w' → wpList P ops Q rest (a.put o.dst (goInt sLen)) w') : wpList P ops Q (o :: rest) a w :=
  wpList_plain hgd fun _ hK => wp_copy_row d s dT sT ho elem hu hsz base n e v xs hown dp sp dLen dCap sLen sCap hd hs off cs hcs hle hfit h1 hpos fun w' h2 h3 => hK _ _ (h w' h2 h3)
/-- 's[k:]'. -/
theorem run_cut_l (T : TypeId) (ht : P.underlying T = some (.slice (P.elem T))) (hs : ∀ w, (sizeOf (P.elem T)).run P w = .ok 1 w) (b n cap k : Nat) (hk : k ≤ n) :
    ∃ p, (k < cap → p = ⟨b, k, none⟩) ∧ ∀ w, (Instr.sliceAt T (.slice (some ⟨b, 0, none⟩) n cap) (some (.int .i64 (k : Int))) none none).run P w = .ok (.slice (some p) (n - k) (cap - k)) w := by
  refine ⟨if cap = k then ⟨b, 0, none⟩ else ⟨b, k, none⟩, fun h => if_neg (by omega), fun w => ?_⟩
  rw [run_sliceAt_slice w T _ _ _ _ ht, run_slice_l w T _ n cap ht .i64 k (by omega) (by omega), hs]
  by_cases h : cap = k <;> simp [Result.andThen, sliced, h, Addr.add] <;> exact Eq.symm
/-- 's[k:m]'. -/
theorem run_cut_lh (T : TypeId) (ht : P.underlying T = some (.slice (P.elem T))) (hs : ∀ w, (sizeOf (P.elem T)).run P w = .ok 1 w) (b n cap k m : Nat) (hk : k ≤ m) (hm : m ≤ cap) :
    ∃ p, (k < cap → p = ⟨b, k, none⟩) ∧ ∀ w, (Instr.sliceAt T (.slice (some ⟨b, 0, none⟩) n cap) (some (.int .i64 (k : Int))) (some (.int .i64 (m : Int))) none).run P w = .ok (.slice (some p) (m - k) (cap - k)) w := by
  refine ⟨if cap = k then ⟨b, 0, none⟩ else ⟨b, k, none⟩, fun h => if_neg (by omega), fun w => ?_⟩
  rw [run_sliceAt_slice w T _ _ _ _ ht, run_slice_lh w T _ n cap ht .i64 .i64 k m (by omega) (by omega) (by omega), hs]
  by_cases h : cap = k <;> simp [Result.andThen, sliced, h, Addr.add] <;> exact Eq.symm
/-- 's[:0]', of nil too. -/
theorem run_cut_0 (T : TypeId) (ht : P.underlying T = some (.slice (P.elem T))) (hs : ∀ w, (sizeOf (P.elem T)).run P w = .ok 1 w) (a : Option Addr) (n cap : Nat) (w : World) :
    (Instr.sliceAt T (.slice a n cap) none (some (.int .i64 0)) none).run P w = .ok (.slice a 0 cap) w := by
  rw [run_sliceAt_slice w T _ _ _ _ ht, run_slice_h w T _ n cap ht .i64 0 (by omega) (by omega), hs]
  cases a <;> simp [Result.andThen, sliced, Addr.add]
/-- 's[:m]'. -/
theorem run_cut_h (T : TypeId) (ht : P.underlying T = some (.slice (P.elem T))) (hs : ∀ w, (sizeOf (P.elem T)).run P w = .ok 1 w) (b n cap m : Nat) (hm : m ≤ cap) (w : World) :
    (Instr.sliceAt T (.slice (some ⟨b, 0, none⟩) n cap) none (some (.int .i64 (m : Int))) none).run P w = .ok (.slice (some ⟨b, 0, none⟩) m cap) w := by
  rw [run_sliceAt_slice w T _ _ _ _ ht, run_slice_h w T _ n cap ht .i64 m (by omega) (by omega), hs]
  simp [Result.andThen, sliced, Addr.add]
end
/-- A piece of an owned row. -/
theorem own_piece {w : World} {base n : Nat} {e : TypeId} {b cap : Nat} {xs : List Value} (h : w.ownsRow base e 1 (.slice (some ⟨b, 0, none⟩) n cap) n xs) (k m : Nat) (p : Addr) (hp : k < m → p = ⟨b, k, none⟩) (hk : k ≤ m) (hm : m ≤ n) :
    ∀ j u, ((xs.drop k).take (m - k))[j]? = some u → w.cell? (p.add j) = some u := by
  intro j u hu
  rw [List.getElem?_take] at hu
  split at hu
  · rename_i hj
    rw [hp (by omega)]
    rw [List.getElem?_drop] at hu
    have := (h.cells (g := b) rfl (k + j) u hu)
    have e : ∀ x y : Nat, (⟨b, x, none⟩ : Addr).add y = ⟨b, x + y, none⟩ := fun x y => by by_cases h0 : y = 0 <;> simp [Addr.add, h0]
    rw [e, Nat.zero_add] at this
    rw [e]; exact this
  · cases hu
/-- Where a slice's cells lie, if it has any. -/
theorem slc_src {w : World} {a : Option Addr} {n cap : Nat} {cs : List Value} (h : SlC w (.slice a n cap) n cs) (hn : 0 < cs.length) : ∃ ad, a = some ad ∧ ∀ j u, cs[j]? = some u → w.cell? (ad.add j) = some u := by
  obtain ⟨a', cap', e1, h1, h2, hc⟩ := h
  simp only [Value.slice.injEq] at e1
  obtain ⟨rfl, -, rfl⟩ := e1
  obtain ⟨b, o, rfl, -⟩ := hc 0 cs[0] (List.getElem?_eq_getElem hn)
  refine ⟨⟨b, o, none⟩, rfl, fun j u hu => ?_⟩
  obtain ⟨b', o', e2, hcell⟩ := hc j u hu
  simp only [Option.some.injEq, Addr.mk.injEq] at e2
  obtain ⟨rfl, rfl, -⟩ := e2
  rw [show (⟨b, o, none⟩ : Addr).add j = ⟨b, o + j, none⟩ by by_cases h0 : j = 0 <;> simp [Addr.add, h0]]
  exact hcell
/-- An owned row, cut to nothing. -/
theorem own_cut0 {w : World} {base n tn cap : Nat} {e : TypeId} {a : Option Addr} {xs : List Value} (h : w.ownsRow base e 1 (.slice a tn cap) n xs) : w.ownsRow base e 1 (.slice a 0 cap) 0 [] := by
  refine ⟨rfl, ?_⟩
  rcases h.2 with ⟨e1, _⟩ | ⟨g, cap', cur, e1, hb, hh, hn, hc, hs, _⟩
  · simp only [Value.slice.injEq] at e1
    obtain ⟨rfl, rfl, rfl⟩ := e1
    exact .inl ⟨rfl, rfl⟩
  · simp only [Value.slice.injEq] at e1
    obtain ⟨rfl, rfl, rfl⟩ := e1
    exact .inr ⟨g, cap, cur, rfl, hb, hh, Nat.zero_le _, hc, hs, by simp⟩
/-- A row as it is made. -/
theorem own_made {w : World} {base K : Nat} {e : TypeId} (b : Nat) (z : Value) (hb : base ≤ b) (hK : K ≤ maxLen) (h : w.heap[b]? = some (.cells (madeCells #[z] K) e (0, 0))) : w.ownsRow base e 1 (.slice (some ⟨b, 0, none⟩) K K) K (List.replicate K z) :=
  ⟨by simp, .inr ⟨b, K, _, rfl, hb, h, Nat.le_refl _, hK, by rw [size_madeCells]; omega, by rw [toList_madeCells_one]; simp⟩⟩
theorem splice_map {α β : Type} (f : α → β) (L : List α) (off : Nat) (cs : List α) : splice (L.map f) off (cs.map f) = (splice L off cs).map f := by
  simp [splice, List.map_take, List.map_drop]
theorem splice_all {α : Type} (L cs : List α) (h : cs.length = L.length) : splice L 0 cs = cs := by
  simp [splice, h]
/-- A row of noughts, with one list laid at its head and another behind O more. -/
theorem splice_two {α : Type} (z : α) (K O : Nat) (X Y : List α) (h : X.length + O + Y.length ≤ K) :
    splice (splice (List.replicate K z) 0 X) (X.length + O) Y = X ++ (List.replicate O z ++ (Y ++ List.replicate (K - (X.length + O + Y.length)) z)) := by
  have e1 : splice (List.replicate K z) 0 X = X ++ List.replicate (K - X.length) z := by simp [splice]
  have e2 : List.replicate (K - X.length) z = List.replicate O z ++ (List.replicate Y.length z ++ List.replicate (K - (X.length + O + Y.length)) z) := by
    rw [List.replicate_append_replicate, List.replicate_append_replicate]
    congr 1; omega
  rw [e1, e2]
  unfold splice
  rw [← List.append_assoc X, List.take_left' (by simp), List.append_assoc X]
  rw [← List.append_assoc (X ++ _), List.drop_left' (by simp [Nat.add_assoc])]
end Go.Proofs.Ytkjgghbdpmkmoaa

/-
  Going over statements and over an expression's parts with a state: plain.
  No condition.
-/
import Derived.Test.YtkjgghbdpmkmoaaObPlain2
namespace Go.Proofs.Ytkjgghbdpmkmoaa
open Go.RowKit
set_option linter.unusedSimpArgs false
set_option linter.unusedVariables false
set_option maxRecDepth 100000

section
variable {σ : Type}
mutual
/-- A statement, and those within it, with a state; false: it was left. -/
def goS (step : σ → ST → σ × Bool) : ST → σ → σ × Bool
  | .mk f nm e t l, a =>
    if (step a (.mk f nm e t l)).2 = false then ((step a (.mk f nm e t l)).1, false) else
    if f ≠ 3 then ((step a (.mk f nm e t l)).1, true) else
    if (goL step t (step a (.mk f nm e t l)).1).2 = false then ((goL step t (step a (.mk f nm e t l)).1).1, false) else
    goL step l (goL step t (step a (.mk f nm e t l)).1).1
def goL (step : σ → ST → σ × Bool) : List ST → σ → σ × Bool
  | [], a => (a, true)
  | s :: ss, a => if (goS step s a).2 = false then ((goS step s a).1, false) else goL step ss (goS step s a).1
end
mutual
/-- An expression's parts with a state; false: it was left. -/
def gpE (step : σ → CE → σ × Bool) : CE → σ → σ × Bool
  | .mk f s k n nm ks, a => if (step a (.mk f s k n nm ks)).2 = false then ((step a (.mk f s k n nm ks)).1, false) else gpL step ks (step a (.mk f s k n nm ks)).1
def gpL (step : σ → CE → σ × Bool) : List CE → σ → σ × Bool
  | [], a => (a, true)
  | k :: ks, a => if (gpE step k a).2 = false then ((gpE step k a).1, false) else gpL step ks (gpE step k a).1
end
theorem goS_eq (step : σ → ST → σ × Bool) (s : ST) (a : σ) : goS step s a = (if (step a s).2 = false then ((step a s).1, false) else if s.form ≠ 3 then ((step a s).1, true) else if (goL step s.thn (step a s).1).2 = false then ((goL step s.thn (step a s).1).1, false) else goL step s.els (goL step s.thn (step a s).1).1) := by
  cases s with
  | mk f nm e t l => rw [goS]; rfl
theorem gpE_eq (step : σ → CE → σ × Bool) (e : CE) (a : σ) : gpE step e a = (if (step a e).2 = false then ((step a e).1, false) else gpL step e.kids (step a e).1) := by
  cases e with
  | mk f s k n nm ks => rw [gpE]; rfl
theorem goL_step (step : σ → ST → σ × Bool) {l : List ST} {k : Nat} {s : ST} (h : l[k]? = some s) (a : σ) : goL step (l.drop k) a = if (goS step s a).2 = false then ((goS step s a).1, false) else goL step (l.drop (k + 1)) (goS step s a).1 := by
  obtain ⟨h1, rfl⟩ := List.getElem?_eq_some_iff.1 h
  rw [List.drop_eq_getElem_cons h1, goL]
theorem gpL_step (step : σ → CE → σ × Bool) {l : List CE} {k : Nat} {s : CE} (h : l[k]? = some s) (a : σ) : gpL step (l.drop k) a = if (gpE step s a).2 = false then ((gpE step s a).1, false) else gpL step (l.drop (k + 1)) (gpE step s a).1 := by
  obtain ⟨h1, rfl⟩ := List.getElem?_eq_some_iff.1 h
  rw [List.drop_eq_getElem_cons h1, gpL]
theorem gpE_no {step : σ → CE → σ × Bool} {e : CE} {a a1 : σ} (h : (a1, false) = step a e) : gpE step e a = (a1, false) := by
  rw [gpE_eq, ← h]; simp
theorem gpE_yes {step : σ → CE → σ × Bool} {e : CE} {a a1 : σ} (h : (a1, true) = step a e) : gpE step e a = gpL step e.kids a1 := by
  rw [gpE_eq, ← h]; simp
theorem gpL_no {step : σ → CE → σ × Bool} {l : List CE} {k : Nat} {s : CE} {a a1 : σ} (hk : l[k]? = some s) (h : (a1, false) = gpE step s a) : gpL step (l.drop k) a = (a1, false) := by
  rw [gpL_step step hk, ← h]; simp
theorem gpL_yes {step : σ → CE → σ × Bool} {l : List CE} {k : Nat} {s : CE} {a a1 : σ} (hk : l[k]? = some s) (h : (a1, true) = gpE step s a) : gpL step (l.drop k) a = gpL step (l.drop (k + 1)) a1 := by
  rw [gpL_step step hk, ← h]; simp
theorem gpL_end {step : σ → CE → σ × Bool} {l : List CE} {k : Nat} {a : σ} (hk : k = l.length) : gpL step (l.drop k) a = (a, true) := by
  rw [hk, List.drop_length, gpL]
theorem goL_no {step : σ → ST → σ × Bool} {l : List ST} {k : Nat} {s : ST} {a a1 : σ} (hk : l[k]? = some s) (h : goS step s a = (a1, false)) : goL step (l.drop k) a = (a1, false) := by
  rw [goL_step step hk, h]; simp
theorem goL_yes {step : σ → ST → σ × Bool} {l : List ST} {k : Nat} {s : ST} {a a1 : σ} (hk : l[k]? = some s) (h : goS step s a = (a1, true)) : goL step (l.drop k) a = goL step (l.drop (k + 1)) a1 := by
  rw [goL_step step hk, h]; simp
theorem goL_end {step : σ → ST → σ × Bool} {l : List ST} {k : Nat} {a : σ} (hk : k = l.length) : goL step (l.drop k) a = (a, true) := by
  rw [hk, List.drop_length, goL]
theorem goS_no {step : σ → ST → σ × Bool} {s : ST} {a a1 : σ} (h : (a1, false) = step a s) : goS step s a = (a1, false) := by
  rw [goS_eq, ← h]; simp
theorem goS_flat {step : σ → ST → σ × Bool} {s : ST} {a a1 : σ} (h : (a1, true) = step a s) (hf : s.form ≠ 3) : goS step s a = (a1, true) := by
  rw [goS_eq, ← h]; simp [hf]
theorem goS_thn {step : σ → ST → σ × Bool} {s : ST} {a a1 a2 : σ} (h : (a1, true) = step a s) (hf : s.form = 3) (h2 : (a2, false) = goL step s.thn a1) : goS step s a = (a2, false) := by
  rw [goS_eq, ← h]; simp [hf, ← h2]
theorem goS_els {step : σ → ST → σ × Bool} {s : ST} {a a1 a2 : σ} (h : (a1, true) = step a s) (hf : s.form = 3) (h2 : (a2, true) = goL step s.thn a1) : goS step s a = goL step s.els a2 := by
  rw [goS_eq, ← h]; simp [hf, ← h2]
end
/-! ### Questions alone -/
mutual
theorem goS_ask (p : ST → Bool) : ∀ s : ST, (goS (fun (_ : Unit) x => ((), p x)) s ()).2 = eachS p s
  | .mk f nm e t l => by
    have h1 := goL_ask p t
    have h2 := goL_ask p l
    rw [goS, eachS]
    cases hp : p (.mk f nm e t l) with
    | false => simp
    | true =>
      by_cases hf : f = 3
      · subst hf
        simp only [Bool.true_eq_false, ↓reduceIte, ne_eq, not_true_eq_false, decide_false, Bool.false_or, Bool.true_and, h1]
        cases ht : eachL p t with
        | false => simp
        | true => simp [h2]
      · simp [hf]
theorem goL_ask (p : ST → Bool) : ∀ l : List ST, (goL (fun (_ : Unit) x => ((), p x)) l ()).2 = eachL p l
  | [] => by rw [goL, eachL]
  | s :: ss => by
    have h1 := goS_ask p s
    have h2 := goL_ask p ss
    rw [goL, eachL, h1]
    cases hs : eachS p s with
    | false => simp
    | true => simp [h2]
end
mutual
theorem gpE_ask (p : CE → Bool) : ∀ s : CE, (gpE (fun (_ : Unit) x => ((), p x)) s ()).2 = partsE p s
  | .mk f s k n nm ks => by
    have h1 := gpL_ask p ks
    rw [gpE, partsE]
    cases hp : p (.mk f s k n nm ks) with
    | false => simp
    | true => simp [h1]
theorem gpL_ask (p : CE → Bool) : ∀ l : List CE, (gpL (fun (_ : Unit) x => ((), p x)) l ()).2 = partsL p l
  | [] => by rw [gpL, partsL]
  | s :: ss => by
    have h1 := gpE_ask p s
    have h2 := gpL_ask p ss
    rw [gpL, partsL, h1]
    cases hs : partsE p s with
    | false => simp
    | true => simp [h2]
end
/-! ### Sizes -/
theorem ST.size_thn (s : ST) : SizeOf.sizeOf s.thn < SizeOf.sizeOf s := by
  cases s with
  | mk f nm e t l => show SizeOf.sizeOf t < _; simp; omega
theorem ST.size_els (s : ST) : SizeOf.sizeOf s.els < SizeOf.sizeOf s := by
  cases s with
  | mk f nm e t l => show SizeOf.sizeOf l < _; simp; omega
theorem CE.size_kids (s : CE) : SizeOf.sizeOf s.kids < SizeOf.sizeOf s := by
  cases s with
  | mk f b k n nm ks => show SizeOf.sizeOf ks < _; simp; omega
theorem size_at {α : Type} [SizeOf α] {l : List α} {k : Nat} {s : α} (h : l[k]? = some s) : SizeOf.sizeOf s < SizeOf.sizeOf l := List.sizeOf_lt_of_mem (List.mem_of_getElem? h)
end Go.Proofs.Ytkjgghbdpmkmoaa

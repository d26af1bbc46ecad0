/-
  Step code and its expressions: plain.
  No condition.
-/
import Derived.Test.YtkjgghbdpmkmoaaBvBinPlain
namespace Go.Proofs.Ytkjgghbdpmkmoaa
open Go.RowKit
set_option linter.unusedSimpArgs false
set_option linter.unusedVariables false
set_option maxRecDepth 100000

/-- An expression. -/
inductive CE where
  | mk (form sub kind n : Int) (name : ByteArray) (kids : List CE)
def CE.form : CE → Int | .mk f _ _ _ _ _ => f
def CE.sub : CE → Int | .mk _ s _ _ _ _ => s
def CE.kind : CE → Int | .mk _ _ k _ _ _ => k
def CE.n : CE → Int | .mk _ _ _ n _ _ => n
def CE.name : CE → ByteArray | .mk _ _ _ _ s _ => s
def CE.kids : CE → List CE | .mk _ _ _ _ _ l => l
mutual
/-- What holds of all expressions whose kids' it holds. -/
theorem CE.ind {P : CE → Prop} (h : ∀ f s k n nm ks, (∀ x ∈ ks, P x) → P (.mk f s k n nm ks)) : ∀ e, P e
  | .mk f s k n nm ks => h f s k n nm ks (CE.indL h ks)
theorem CE.indL {P : CE → Prop} (h : ∀ f s k n nm ks, (∀ x ∈ ks, P x) → P (.mk f s k n nm ks)) : ∀ ks : List CE, ∀ x ∈ ks, P x
  | [], _, hx => (by cases hx)
  | k :: ks, x, hx => by
    rcases List.mem_cons.1 hx with e | e
    · rw [e]; exact CE.ind h k
    · exact CE.indL h ks x e
end
/-- A statement. -/
inductive ST where
  | mk (form : Int) (name : ByteArray) (e : CE) (thn els : List ST)
def ST.form : ST → Int | .mk f _ _ _ _ => f
def ST.name : ST → ByteArray | .mk _ n _ _ _ => n
def ST.e : ST → CE | .mk _ _ e _ _ => e
def ST.thn : ST → List ST | .mk _ _ _ t _ => t
def ST.els : ST → List ST | .mk _ _ _ _ l => l
mutual
theorem ST.ind {P : ST → Prop} (h : ∀ f nm e t l, (∀ x ∈ t, P x) → (∀ x ∈ l, P x) → P (.mk f nm e t l)) : ∀ s, P s
  | .mk f nm e t l => h f nm e t l (ST.indL h t) (ST.indL h l)
theorem ST.indL {P : ST → Prop} (h : ∀ f nm e t l, (∀ x ∈ t, P x) → (∀ x ∈ l, P x) → P (.mk f nm e t l)) : ∀ ks : List ST, ∀ x ∈ ks, P x
  | [], _, hx => (by cases hx)
  | k :: ks, x, hx => by
    rcases List.mem_cons.1 hx with e | e
    · rw [e]; exact ST.ind h k
    · exact ST.indL h ks x e
end
/-! ### How long an expression is -/
mutual
def sizeE : CE → Int → Int → Int × Bool
  | .mk _ _ _ _ _ ks, most, deep => if 400 < deep then (0, false) else sizeK ks most deep 1
def sizeK : List CE → Int → Int → Int → Int × Bool
  | [], most, _, n => (n, decide (n ≤ most))
  | k :: ks, most, deep, n => if (sizeE k (most - n) (deep + 1)).2 = false ∨ most < n + (sizeE k (most - n) (deep + 1)).1 then (n + (sizeE k (most - n) (deep + 1)).1, false) else sizeK ks most deep (n + (sizeE k (most - n) (deep + 1)).1)
end
mutual
theorem sizeE_bd : ∀ (e : CE) (most deep : Int), deep ≤ 401 → 0 ≤ (sizeE e most deep).1 ∧ (sizeE e most deep).1 ≤ max most 0 + (402 - deep)
  | .mk _ _ _ _ _ ks, most, deep, h => by
    unfold sizeE
    split
    · exact ⟨Int.le_refl _, by omega⟩
    · exact sizeK_bd ks most deep 1 (by omega) (by omega) (by omega)
theorem sizeK_bd : ∀ (ks : List CE) (most deep n : Int), deep ≤ 400 → 0 ≤ n → n ≤ max most 1 → 0 ≤ (sizeK ks most deep n).1 ∧ (sizeK ks most deep n).1 ≤ max most 0 + (402 - deep)
  | [], most, deep, n, h, h0, hn => by unfold sizeK; exact ⟨h0, by dsimp only; omega⟩
  | k :: ks, most, deep, n, h, h0, hn => by
    have h1 := sizeE_bd k (most - n) (deep + 1) (by omega)
    unfold sizeK
    split
    · exact ⟨by dsimp only; omega, by dsimp only; omega⟩
    · rename_i hc
      have hc2 : ¬ most < n + (sizeE k (most - n) (deep + 1)).1 := fun e => hc (.inr e)
      exact sizeK_bd ks most deep _ h (by omega) (by omega)
end
def fitsE (e : CE) : Bool := (sizeE e 2000 1).2
/-! ### How many kids a form has -/
def kidsN (f : Int) : Int := if f = 1 ∨ f = 2 then 0 else if f = 3 ∨ f = 11 then 1 else if f = 4 then 2 else if f = 5 then 3 else -1
/-! ### An expression's kind -/
mutual
def kindE (of : ByteArray → Int) : CE → Int
  | .mk f s k _ nm ks => kindF of f s k nm (kindL of ks)
/-- The kids' kinds; none: one of them has none. -/
def kindL (of : ByteArray → Int) : List CE → Option (List Int)
  | [] => some []
  | x :: xs => if kindE of x = 0 then none else (kindL of xs).map (kindE of x :: ·)
def kindF (of : ByteArray → Int) (f s k : Int) (nm : ByteArray) : Option (List Int) → Int
  | none => 0
  | some l =>
    if f = 1 then k else if f = 2 then of nm
    else if f = 3 then (if (unv s (l.getD 0 0) 0).2 then l.getD 0 0 else 0)
    else if f = 4 then (if (binv s (l.getD 0 0) 0 0).2.2 ∧ l.getD 0 0 = l.getD 1 0 then (binv s (l.getD 0 0) 0 0).2.1 else 0)
    else if f = 5 then (if l.getD 0 0 = 1 ∧ l.getD 1 0 = l.getD 2 0 then l.getD 1 0 else 0)
    else if f = 11 then (if 0 < width k then k else 0)
    else if f = 9 then (if of nm = 1 then l.getD 0 0 else 0)
    else if f = 10 then (if of nm = 1 ∧ l.getD 0 0 = l.getD 1 0 then l.getD 0 0 else 0)
    else 0
end
end Go.Proofs.Ytkjgghbdpmkmoaa

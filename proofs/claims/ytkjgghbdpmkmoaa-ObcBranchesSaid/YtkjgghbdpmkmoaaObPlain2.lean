/-
  What the rules ask of step code: plain.
  No condition.
-/
import Derived.Test.YtkjgghbdpmkmoaaObPlain
namespace Go.Proofs.Ytkjgghbdpmkmoaa
open Go.RowKit
set_option linter.unusedSimpArgs false
set_option linter.unusedVariables false
set_option maxRecDepth 100000

/-! ### How many statements, how deep -/
mutual
def fitsS : ST → Int → Int → Int × Bool
  | .mk f _ e t l, deep, c =>
    if 20000 < c + 1 ∨ fitsE e = false then (c + 1, false) else if f ≠ 3 then (c + 1, true) else
    if t ≠ [] ∧ 400 < deep + 1 then (c + 1, false) else if (fitsL t (deep + 1) (c + 1)).2 = false then ((fitsL t (deep + 1) (c + 1)).1, false) else
    if l ≠ [] ∧ 400 < deep + 1 then ((fitsL t (deep + 1) (c + 1)).1, false) else fitsL l (deep + 1) (fitsL t (deep + 1) (c + 1)).1
def fitsL : List ST → Int → Int → Int × Bool
  | [], _, c => (c, true)
  | s :: ss, deep, c => if (fitsS s deep c).2 = false then ((fitsS s deep c).1, false) else fitsL ss deep (fitsS s deep c).1
end
/-- fits, with what it asks first. -/
def fitsB (l : List ST) (deep c : Int) : Int × Bool := if l ≠ [] ∧ 400 < deep then (c, false) else fitsL l deep c
theorem fitsS_eq (f : Int) (nm : ByteArray) (e : CE) (t l : List ST) (deep c : Int) : fitsS (.mk f nm e t l) deep c =
    if 20000 < c + 1 ∨ fitsE e = false then (c + 1, false) else if f ≠ 3 then (c + 1, true) else
    if (fitsB t (deep + 1) (c + 1)).2 = false then ((fitsB t (deep + 1) (c + 1)).1, false) else fitsB l (deep + 1) (fitsB t (deep + 1) (c + 1)).1 := by
  rw [fitsS]
  unfold fitsB
  by_cases h1 : 20000 < c + 1 ∨ fitsE e = false
  · rw [if_pos h1, if_pos h1]
  · rw [if_neg h1, if_neg h1]
    by_cases h2 : f ≠ 3
    · rw [if_pos h2, if_pos h2]
    · rw [if_neg h2, if_neg h2]
      by_cases h3 : t ≠ [] ∧ 400 < deep + 1
      · rw [if_pos h3, if_pos h3]; rfl
      · rw [if_neg h3, if_neg h3]
mutual
theorem fitsS_bd : ∀ (s : ST) (deep c : Int), 0 ≤ c → c ≤ 20000 → c ≤ (fitsS s deep c).1 ∧ (fitsS s deep c).1 ≤ 20001 ∧ ((fitsS s deep c).2 = true → (fitsS s deep c).1 ≤ 20000)
  | .mk f nm e t l, deep, c, h0, h => by
    rw [fitsS]
    split
    · exact ⟨by dsimp only; omega, by dsimp only; omega, fun e => by cases e⟩
    rename_i h1
    have h1' : c + 1 ≤ 20000 := by
      refine Int.not_lt.1 fun e => h1 (.inl e)
    split
    · exact ⟨by dsimp only; omega, by dsimp only; omega, fun _ => by dsimp only; omega⟩
    split
    · exact ⟨by dsimp only; omega, by dsimp only; omega, fun e => by cases e⟩
    have ht := fitsL_bd t (deep + 1) (c + 1) (by omega) h1'
    split
    · exact ⟨by dsimp only; omega, by dsimp only; omega, fun e => by cases e⟩
    rename_i h4
    have ht2 := ht.2.2 (by simpa using h4)
    split
    · exact ⟨by dsimp only; omega, by dsimp only; omega, fun e => by cases e⟩
    have hl := fitsL_bd l (deep + 1) (fitsL t (deep + 1) (c + 1)).1 (by omega) ht2
    exact ⟨by omega, hl.2.1, hl.2.2⟩
theorem fitsL_bd : ∀ (ss : List ST) (deep c : Int), 0 ≤ c → c ≤ 20000 → c ≤ (fitsL ss deep c).1 ∧ (fitsL ss deep c).1 ≤ 20001 ∧ ((fitsL ss deep c).2 = true → (fitsL ss deep c).1 ≤ 20000)
  | [], deep, c, h0, h => by unfold fitsL; exact ⟨by dsimp only; omega, by dsimp only; omega, fun _ => h⟩
  | s :: ss, deep, c, h0, h => by
    have h1 := fitsS_bd s deep c h0 h
    unfold fitsL
    split
    · exact ⟨h1.1, h1.2.1, fun e => by cases e⟩
    · rename_i h2
      have h3 := fitsL_bd ss deep _ (by omega) (h1.2.2 (by simpa using h2))
      exact ⟨by omega, h3.2.1, h3.2.2⟩
end
/-! ### All statements, all parts -/
mutual
def eachS (p : ST → Bool) : ST → Bool
  | .mk f nm e t l => p (.mk f nm e t l) && (decide (f ≠ 3) || (eachL p t && eachL p l))
def eachL (p : ST → Bool) : List ST → Bool
  | [] => true
  | s :: ss => eachS p s && eachL p ss
end
mutual
def partsE (p : CE → Bool) : CE → Bool
  | .mk f s k n nm ks => p (.mk f s k n nm ks) && partsL p ks
def partsL (p : CE → Bool) : List CE → Bool
  | [] => true
  | k :: ks => partsE p k && partsL p ks
end
def expsL (p : CE → Bool) (l : List ST) : Bool := eachL (fun s => if s.form = 1 ∨ s.form = 2 ∨ s.form = 3 then partsE p s.e else true) l
/-! ### Names -/
abbrev NT := List (ByteArray × Int × Int)
def lookN (t : NT) (n : ByteArray) : Option (Int × Int) := (t.find? fun e => decide (e.1 = n)).map (·.2)
def kindN (t : NT) (n : ByteArray) : Int := ((lookN t n).map (·.1)).getD 0
def isN (t : NT) (n : ByteArray) : Int := ((lookN t n).map (·.2)).getD 0
/-- Names put one behind the other, till one is there. -/
def putN : NT → NT → NT × Bool
  | t, [] => (t, true)
  | t, e :: l => if (lookN t e.1).isSome then (t, false) else putN (e :: t) l
/-- A variable, a cell: its name, its kind, what it begins with. -/
structure CV where
  name : ByteArray
  kind : Int
structure CL where
  name : ByteArray
  kind : Int
  init : Int
/-- Step code. -/
structure SP where
  ins : List CV
  outs : List CV
  vars : List CV
  cells : List CL
  body : List ST
def SP.names (s : SP) : NT := (s.ins.map fun v => (v.name, v.kind, 1)) ++ (s.outs.map fun v => (v.name, v.kind, 2)) ++ (s.vars.map fun v => (v.name, v.kind, 3)) ++ (s.cells.map fun c => (c.name, c.kind, 4))
def longS (s : SP) : Bool := (fitsB s.body 1 0).2 && decide (min s.ins.length 8001 + min s.outs.length 8001 + min s.vars.length 8001 + min s.cells.length 8001 ≤ 8000)
def tabS (s : SP) : NT := (putN [] s.names).1
def kindsT (t : NT) : Bool := t.all fun e => decide (width (kindN t e.1) ≠ 0)
def kindsS (s : SP) : Bool := kindsT (tabS s)
def formsS (s : SP) : Bool := eachL (fun x => decide (x.form = 1 ∨ x.form = 2 ∨ x.form = 3)) s.body && expsL (fun e => decide (kidsN e.form = e.kids.length) && (decide (e.form ≠ 1) || isk e.kind e.n)) s.body && s.cells.all fun c => isk c.kind c.init
def thereS (s : SP) : Bool := expsL (fun e => decide (e.form ≠ 2) || decide (isN (tabS s) e.name ≠ 0)) s.body && eachL (fun x => if x.form = 1 then decide (isN (tabS s) x.name = 2 ∨ isN (tabS s) x.name = 3) else if x.form = 2 then decide (isN (tabS s) x.name = 4) else true) s.body
def typesS (s : SP) : Bool := eachL (fun x => if x.form = 3 then decide (kindE (kindN (tabS s)) x.e = 1) else decide (kindE (kindN (tabS s)) x.e = kindN (tabS s) x.name)) s.body
/-- What Check tells. -/
def chkS (s : SP) : Int :=
  if longS s = false then 2 else if (putN [] s.names).2 = false then 20 else if kindsS s = false then 22 else if formsS s = false then 40 else if thereS s = false then 21 else if typesS s = false then 22 else 0
/-! ### How long step code is -/
mutual
def countE : CE → Int
  | .mk _ _ _ _ _ ks => 1 + countK ks
def countK : List CE → Int
  | [] => 0
  | k :: ks => countE k + countK ks
end
mutual
def lenS : ST → Int
  | .mk f _ e t l => 1 + countE e + (if f = 3 then lenL t + lenL l else 0)
def lenL : List ST → Int
  | [] => 0
  | s :: ss => lenS s + lenL ss
end
/-! ### A run -/
/-- What names have. -/
abbrev ENV := List (ByteArray × Int)
def getV (t : ENV) (n : ByteArray) : Int := ((t.find? fun e => decide (e.1 = n)).map (·.2)).getD 0
mutual
/-- An expression's value and kind. -/
def runE (ks vs : ENV) : CE → Int × Int
  | .mk f s k n nm l =>
    if f = 1 then (n, k) else if f = 2 then (getV vs nm, getV ks nm) else runF f s k (runK ks vs l)
def runK (ks vs : ENV) : List CE → List (Int × Int)
  | [] => []
  | e :: l => runE ks vs e :: runK ks vs l
def runF (f s k : Int) (r : List (Int × Int)) : Int × Int :=
  if f = 5 then (if (r.getD 0 (0, 0)).1 ≠ 0 then r.getD 1 (0, 0) else r.getD 2 (0, 0))
  else if f = 3 then ((unv s (r.getD 0 (0, 0)).2 (r.getD 0 (0, 0)).1).1, (r.getD 0 (0, 0)).2)
  else if f = 11 then ((castv (r.getD 0 (0, 0)).2 k (r.getD 0 (0, 0)).1).1, k)
  else ((binv s (r.getD 0 (0, 0)).2 (r.getD 0 (0, 0)).1 (r.getD 1 (0, 0)).1).1, (binv s (r.getD 0 (0, 0)).2 (r.getD 0 (0, 0)).1 (r.getD 1 (0, 0)).1).2.1)
end
mutual
def doS (ks : ENV) : ST → ENV → ENV
  | .mk f nm e t l, vs => if f = 3 then (if (runE ks vs e).1 ≠ 0 then doL ks t vs else doL ks l vs) else (nm, (runE ks vs e).1) :: vs
def doL (ks : ENV) : List ST → ENV → ENV
  | [], vs => vs
  | s :: ss, vs => doL ks ss (doS ks s vs)
end
end Go.Proofs.Ytkjgghbdpmkmoaa

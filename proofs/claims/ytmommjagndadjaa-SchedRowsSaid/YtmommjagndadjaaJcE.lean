/-
  Step code and its expressions: plain.
  No condition.
  What the rules ask of step code: plain.
  No condition.
  Flat programs: plain; what the rules ask of one.
  No condition.
  Step code and its expressions as they lie in memory.
  No condition.
  Going over statements and over an expression's parts with a state: plain.
  No condition.
  Statements as they lie in memory.
  No condition.
  The walk over an expression's parts, whatever is done with each.
  Condition: the expression lies in memory, and what is done keeps its contract.
  The walk over statements, whatever is done with each.
  Condition: the statements lie in memory, and what is done keeps its contract.
  The walk: how long and how deep an expression is.
  Condition: the expression lies in memory.
  Step code and its checker as they lie in memory.
  No condition.
  Flat programs as they lie in memory.
  No condition.
  The checker of flat programs as it lies in memory.
  No condition.
  The walk: a flat program's variables.
  Condition: the program lies in memory.
  Blocks that a walk may touch, named by the world itself; rows of numbers, each in a block of its own, in one block.
  No condition.
  A run's values are numbers that 64 bits hold: plain.
  No condition.
-/
import Derived.Test.YtmommjagndadjaaJcB
import Derived.Test.YtmommjagndadjaaJcA
import Derived.Deep.RegionHeld3
import Derived.Deep.OwnRows
import Derived.Test.YtmommjagndadjaaJcD
namespace Go.Proofs.Ytmommjagndadjaa
open Go.RowKit
set_option linter.unusedSimpArgs false
set_option linter.unusedVariables false
set_option maxRecDepth 100000

/-- An expression. -/
inductive CE where
  | mk (form sub kind n : Int) (name : ByteArray) (kids : List CE)
def CE.form : CE → Int | .mk f _ _ _ _ _ => f
def CE.sub : CE → Int | .mk _ s _ _ _ _ => s
def CE.kind : CE → Int | .mk _ _ k _ _ _ => k
def CE.n : CE → Int | .mk _ _ _ n _ _ => n
def CE.name : CE → ByteArray | .mk _ _ _ _ s _ => s
def CE.kids : CE → List CE | .mk _ _ _ _ _ l => l
mutual
/-- What holds of all expressions whose kids' it holds. -/
theorem CE.ind {P : CE → Prop} (h : ∀ f s k n nm ks, (∀ x ∈ ks, P x) → P (.mk f s k n nm ks)) : ∀ e, P e
  | .mk f s k n nm ks => h f s k n nm ks (CE.indL h ks)
theorem CE.indL {P : CE → Prop} (h : ∀ f s k n nm ks, (∀ x ∈ ks, P x) → P (.mk f s k n nm ks)) : ∀ ks : List CE, ∀ x ∈ ks, P x
  | [], _, hx => (by cases hx)
  | k :: ks, x, hx => by
    rcases List.mem_cons.1 hx with e | e
    · rw [e]; exact CE.ind h k
    · exact CE.indL h ks x e
end
/-- A statement. -/
inductive ST where
  | mk (form : Int) (name : ByteArray) (e : CE) (thn els : List ST)
def ST.form : ST → Int | .mk f _ _ _ _ => f
def ST.name : ST → ByteArray | .mk _ n _ _ _ => n
def ST.e : ST → CE | .mk _ _ e _ _ => e
def ST.thn : ST → List ST | .mk _ _ _ t _ => t
def ST.els : ST → List ST | .mk _ _ _ _ l => l
mutual
theorem ST.ind {P : ST → Prop} (h : ∀ f nm e t l, (∀ x ∈ t, P x) → (∀ x ∈ l, P x) → P (.mk f nm e t l)) : ∀ s, P s
  | .mk f nm e t l => h f nm e t l (ST.indL h t) (ST.indL h l)
theorem ST.indL {P : ST → Prop} (h : ∀ f nm e t l, (∀ x ∈ t, P x) → (∀ x ∈ l, P x) → P (.mk f nm e t l)) : ∀ ks : List ST, ∀ x ∈ ks, P x
  | [], _, hx => (by cases hx)
  | k :: ks, x, hx => by
    rcases List.mem_cons.1 hx with e | e
    · rw [e]; exact ST.ind h k
    · exact ST.indL h ks x e
end
/-! ### How long an expression is -/
mutual
def sizeE : CE → Int → Int → Int × Bool
  | .mk _ _ _ _ _ ks, most, deep => if 400 < deep then (0, false) else sizeK ks most deep 1
def sizeK : List CE → Int → Int → Int → Int × Bool
  | [], most, _, n => (n, decide (n ≤ most))
  | k :: ks, most, deep, n => if (sizeE k (most - n) (deep + 1)).2 = false ∨ most < n + (sizeE k (most - n) (deep + 1)).1 then (n + (sizeE k (most - n) (deep + 1)).1, false) else sizeK ks most deep (n + (sizeE k (most - n) (deep + 1)).1)
end
mutual
theorem sizeE_bd : ∀ (e : CE) (most deep : Int), deep ≤ 401 → 0 ≤ (sizeE e most deep).1 ∧ (sizeE e most deep).1 ≤ max most 0 + (402 - deep)
  | .mk _ _ _ _ _ ks, most, deep, h => by
    unfold sizeE
    split
    · exact ⟨Int.le_refl _, by omega⟩
    · exact sizeK_bd ks most deep 1 (by omega) (by omega) (by omega)
theorem sizeK_bd : ∀ (ks : List CE) (most deep n : Int), deep ≤ 400 → 0 ≤ n → n ≤ max most 1 → 0 ≤ (sizeK ks most deep n).1 ∧ (sizeK ks most deep n).1 ≤ max most 0 + (402 - deep)
  | [], most, deep, n, h, h0, hn => by unfold sizeK; exact ⟨h0, by dsimp only; omega⟩
  | k :: ks, most, deep, n, h, h0, hn => by
    have h1 := sizeE_bd k (most - n) (deep + 1) (by omega)
    unfold sizeK
    split
    · exact ⟨by dsimp only; omega, by dsimp only; omega⟩
    · rename_i hc
      have hc2 : ¬ most < n + (sizeE k (most - n) (deep + 1)).1 := fun e => hc (.inr e)
      exact sizeK_bd ks most deep _ h (by omega) (by omega)
end
def fitsE (e : CE) : Bool := (sizeE e 2000 1).2
/-! ### How many kids a form has -/
def kidsN (f : Int) : Int := if f = 1 ∨ f = 2 then 0 else if f = 3 ∨ f = 11 then 1 else if f = 4 then 2 else if f = 5 then 3 else -1
/-! ### An expression's kind -/
mutual
def kindE (of : ByteArray → Int) : CE → Int
  | .mk f s k _ nm ks => kindF of f s k nm (kindL of ks)
/-- The kids' kinds; none: one of them has none. -/
def kindL (of : ByteArray → Int) : List CE → Option (List Int)
  | [] => some []
  | x :: xs => if kindE of x = 0 then none else (kindL of xs).map (kindE of x :: ·)
def kindF (of : ByteArray → Int) (f s k : Int) (nm : ByteArray) : Option (List Int) → Int
  | none => 0
  | some l =>
    if f = 1 then k else if f = 2 then of nm
    else if f = 3 then (if (unv s (l.getD 0 0) 0).2 then l.getD 0 0 else 0)
    else if f = 4 then (if (binv s (l.getD 0 0) 0 0).2.2 ∧ l.getD 0 0 = l.getD 1 0 then (binv s (l.getD 0 0) 0 0).2.1 else 0)
    else if f = 5 then (if l.getD 0 0 = 1 ∧ l.getD 1 0 = l.getD 2 0 then l.getD 1 0 else 0)
    else if f = 11 then (if 0 < width k then k else 0)
    else if f = 9 then (if of nm = 1 then l.getD 0 0 else 0)
    else if f = 10 then (if of nm = 1 ∧ l.getD 0 0 = l.getD 1 0 then l.getD 0 0 else 0)
    else 0
end
end Go.Proofs.Ytmommjagndadjaa
namespace Go.Proofs.Ytmommjagndadjaa
open Go.RowKit
set_option linter.unusedSimpArgs false
set_option linter.unusedVariables false
set_option maxRecDepth 100000

/-! ### How many statements, how deep -/
mutual
def fitsS : ST → Int → Int → Int × Bool
  | .mk f _ e t l, deep, c =>
    if 20000 < c + 1 ∨ fitsE e = false then (c + 1, false) else if f ≠ 3 then (c + 1, true) else
    if t ≠ [] ∧ 400 < deep + 1 then (c + 1, false) else if (fitsL t (deep + 1) (c + 1)).2 = false then ((fitsL t (deep + 1) (c + 1)).1, false) else
    if l ≠ [] ∧ 400 < deep + 1 then ((fitsL t (deep + 1) (c + 1)).1, false) else fitsL l (deep + 1) (fitsL t (deep + 1) (c + 1)).1
def fitsL : List ST → Int → Int → Int × Bool
  | [], _, c => (c, true)
  | s :: ss, deep, c => if (fitsS s deep c).2 = false then ((fitsS s deep c).1, false) else fitsL ss deep (fitsS s deep c).1
end
/-- fits, with what it asks first. -/
def fitsB (l : List ST) (deep c : Int) : Int × Bool := if l ≠ [] ∧ 400 < deep then (c, false) else fitsL l deep c
theorem fitsS_eq (f : Int) (nm : ByteArray) (e : CE) (t l : List ST) (deep c : Int) : fitsS (.mk f nm e t l) deep c =
    if 20000 < c + 1 ∨ fitsE e = false then (c + 1, false) else if f ≠ 3 then (c + 1, true) else
    if (fitsB t (deep + 1) (c + 1)).2 = false then ((fitsB t (deep + 1) (c + 1)).1, false) else fitsB l (deep + 1) (fitsB t (deep + 1) (c + 1)).1 := by
  rw [fitsS]
  unfold fitsB
  by_cases h1 : 20000 < c + 1 ∨ fitsE e = false
  · rw [if_pos h1, if_pos h1]
  · rw [if_neg h1, if_neg h1]
    by_cases h2 : f ≠ 3
    · rw [if_pos h2, if_pos h2]
    · rw [if_neg h2, if_neg h2]
      by_cases h3 : t ≠ [] ∧ 400 < deep + 1
      · rw [if_pos h3, if_pos h3]; rfl
      · rw [if_neg h3, if_neg h3]
mutual
theorem fitsS_bd : ∀ (s : ST) (deep c : Int), 0 ≤ c → c ≤ 20000 → c ≤ (fitsS s deep c).1 ∧ (fitsS s deep c).1 ≤ 20001 ∧ ((fitsS s deep c).2 = true → (fitsS s deep c).1 ≤ 20000)
  | .mk f nm e t l, deep, c, h0, h => by
    rw [fitsS]
    split
    · exact ⟨by dsimp only; omega, by dsimp only; omega, fun e => by cases e⟩
    rename_i h1
    have h1' : c + 1 ≤ 20000 := by
      refine Int.not_lt.1 fun e => h1 (.inl e)
    split
    · exact ⟨by dsimp only; omega, by dsimp only; omega, fun _ => by dsimp only; omega⟩
    split
    · exact ⟨by dsimp only; omega, by dsimp only; omega, fun e => by cases e⟩
    have ht := fitsL_bd t (deep + 1) (c + 1) (by omega) h1'
    split
    · exact ⟨by dsimp only; omega, by dsimp only; omega, fun e => by cases e⟩
    rename_i h4
    have ht2 := ht.2.2 (by simpa using h4)
    split
    · exact ⟨by dsimp only; omega, by dsimp only; omega, fun e => by cases e⟩
    have hl := fitsL_bd l (deep + 1) (fitsL t (deep + 1) (c + 1)).1 (by omega) ht2
    exact ⟨by omega, hl.2.1, hl.2.2⟩
theorem fitsL_bd : ∀ (ss : List ST) (deep c : Int), 0 ≤ c → c ≤ 20000 → c ≤ (fitsL ss deep c).1 ∧ (fitsL ss deep c).1 ≤ 20001 ∧ ((fitsL ss deep c).2 = true → (fitsL ss deep c).1 ≤ 20000)
  | [], deep, c, h0, h => by unfold fitsL; exact ⟨by dsimp only; omega, by dsimp only; omega, fun _ => h⟩
  | s :: ss, deep, c, h0, h => by
    have h1 := fitsS_bd s deep c h0 h
    unfold fitsL
    split
    · exact ⟨h1.1, h1.2.1, fun e => by cases e⟩
    · rename_i h2
      have h3 := fitsL_bd ss deep _ (by omega) (h1.2.2 (by simpa using h2))
      exact ⟨by omega, h3.2.1, h3.2.2⟩
end
/-! ### All statements, all parts -/
mutual
def eachS (p : ST → Bool) : ST → Bool
  | .mk f nm e t l => p (.mk f nm e t l) && (decide (f ≠ 3) || (eachL p t && eachL p l))
def eachL (p : ST → Bool) : List ST → Bool
  | [] => true
  | s :: ss => eachS p s && eachL p ss
end
mutual
def partsE (p : CE → Bool) : CE → Bool
  | .mk f s k n nm ks => p (.mk f s k n nm ks) && partsL p ks
def partsL (p : CE → Bool) : List CE → Bool
  | [] => true
  | k :: ks => partsE p k && partsL p ks
end
def expsL (p : CE → Bool) (l : List ST) : Bool := eachL (fun s => if s.form = 1 ∨ s.form = 2 ∨ s.form = 3 then partsE p s.e else true) l
/-! ### Names -/
abbrev NT := List (ByteArray × Int × Int)
def lookN (t : NT) (n : ByteArray) : Option (Int × Int) := (t.find? fun e => decide (e.1 = n)).map (·.2)
def kindN (t : NT) (n : ByteArray) : Int := ((lookN t n).map (·.1)).getD 0
def isN (t : NT) (n : ByteArray) : Int := ((lookN t n).map (·.2)).getD 0
/-- Names put one behind the other, till one is there. -/
def putN : NT → NT → NT × Bool
  | t, [] => (t, true)
  | t, e :: l => if (lookN t e.1).isSome then (t, false) else putN (e :: t) l
/-- A variable, a cell: its name, its kind, what it begins with. -/
structure CV where
  name : ByteArray
  kind : Int
structure CL where
  name : ByteArray
  kind : Int
  init : Int
/-- Step code. -/
structure SP where
  ins : List CV
  outs : List CV
  vars : List CV
  cells : List CL
  body : List ST
def SP.names (s : SP) : NT := (s.ins.map fun v => (v.name, v.kind, 1)) ++ (s.outs.map fun v => (v.name, v.kind, 2)) ++ (s.vars.map fun v => (v.name, v.kind, 3)) ++ (s.cells.map fun c => (c.name, c.kind, 4))
def longS (s : SP) : Bool := (fitsB s.body 1 0).2 && decide (min s.ins.length 8001 + min s.outs.length 8001 + min s.vars.length 8001 + min s.cells.length 8001 ≤ 8000)
def tabS (s : SP) : NT := (putN [] s.names).1
def kindsT (t : NT) : Bool := t.all fun e => decide (width (kindN t e.1) ≠ 0)
def kindsS (s : SP) : Bool := kindsT (tabS s)
def formsS (s : SP) : Bool := eachL (fun x => decide (x.form = 1 ∨ x.form = 2 ∨ x.form = 3)) s.body && expsL (fun e => decide (kidsN e.form = e.kids.length) && (decide (e.form ≠ 1) || isk e.kind e.n)) s.body && s.cells.all fun c => isk c.kind c.init
def thereS (s : SP) : Bool := expsL (fun e => decide (e.form ≠ 2) || decide (isN (tabS s) e.name ≠ 0)) s.body && eachL (fun x => if x.form = 1 then decide (isN (tabS s) x.name = 2 ∨ isN (tabS s) x.name = 3) else if x.form = 2 then decide (isN (tabS s) x.name = 4) else true) s.body
def typesS (s : SP) : Bool := eachL (fun x => if x.form = 3 then decide (kindE (kindN (tabS s)) x.e = 1) else decide (kindE (kindN (tabS s)) x.e = kindN (tabS s) x.name)) s.body
/-- What Check tells. -/
def chkS (s : SP) : Int :=
  if longS s = false then 2 else if (putN [] s.names).2 = false then 20 else if kindsS s = false then 22 else if formsS s = false then 40 else if thereS s = false then 21 else if typesS s = false then 22 else 0
/-! ### How long step code is -/
mutual
def countE : CE → Int
  | .mk _ _ _ _ _ ks => 1 + countK ks
def countK : List CE → Int
  | [] => 0
  | k :: ks => countE k + countK ks
end
mutual
def lenS : ST → Int
  | .mk f _ e t l => 1 + countE e + (if f = 3 then lenL t + lenL l else 0)
def lenL : List ST → Int
  | [] => 0
  | s :: ss => lenS s + lenL ss
end
/-! ### A run -/
/-- What names have. -/
abbrev ENV := List (ByteArray × Int)
def getV (t : ENV) (n : ByteArray) : Int := ((t.find? fun e => decide (e.1 = n)).map (·.2)).getD 0
mutual
/-- An expression's value and kind. -/
def runE (ks vs : ENV) : CE → Int × Int
  | .mk f s k n nm l =>
    if f = 1 then (n, k) else if f = 2 then (getV vs nm, getV ks nm) else runF f s k (runK ks vs l)
def runK (ks vs : ENV) : List CE → List (Int × Int)
  | [] => []
  | e :: l => runE ks vs e :: runK ks vs l
def runF (f s k : Int) (r : List (Int × Int)) : Int × Int :=
  if f = 5 then (if (r.getD 0 (0, 0)).1 ≠ 0 then r.getD 1 (0, 0) else r.getD 2 (0, 0))
  else if f = 3 then ((unv s (r.getD 0 (0, 0)).2 (r.getD 0 (0, 0)).1).1, (r.getD 0 (0, 0)).2)
  else if f = 11 then ((castv (r.getD 0 (0, 0)).2 k (r.getD 0 (0, 0)).1).1, k)
  else ((binv s (r.getD 0 (0, 0)).2 (r.getD 0 (0, 0)).1 (r.getD 1 (0, 0)).1).1, (binv s (r.getD 0 (0, 0)).2 (r.getD 0 (0, 0)).1 (r.getD 1 (0, 0)).1).2.1)
end
mutual
def doS (ks : ENV) : ST → ENV → ENV
  | .mk f nm e t l, vs => if f = 3 then (if (runE ks vs e).1 ≠ 0 then doL ks t vs else doL ks l vs) else (nm, (runE ks vs e).1) :: vs
def doL (ks : ENV) : List ST → ENV → ENV
  | [], vs => vs
  | s :: ss, vs => doL ks ss (doS ks s vs)
end
end Go.Proofs.Ytmommjagndadjaa
namespace Go.Proofs.Ytmommjagndadjaa
open Go.RowKit
set_option linter.unusedSimpArgs false
set_option linter.unusedVariables false
set_option maxRecDepth 100000

/-- A clock: names, each true or false. -/
abbrev CK0 := List (ByteArray × Bool)
/-- A variable. -/
structure VR where
  name : ByteArray
  kind : Int
  clk : CK0
/-- An equation. -/
structure EQ where
  form : Int
  name : ByteArray
  e : CE
  init : Int
  next : ByteArray
  reset : ByteArray
  period : Int
  offset : Int
/-- A flat program. -/
structure CP where
  ins : List VR
  outs : List VR
  locals : List VR
  eqs : List EQ
def CP.vars (c : CP) : List VR := c.ins ++ c.outs ++ c.locals
def CP.owns (c : CP) : List VR := c.outs ++ c.locals
abbrev eB : ByteArray := ⟨#[]⟩
/-! ### What names stand for -/
/-- Variables by name; what was put last stands first. -/
abbrev VT := List VR
def lookT (t : VT) (n : ByteArray) : Option VR := t.find? fun v => decide (v.name = n)
def thereT (t : VT) (n : ByteArray) : Bool := (lookT t n).isSome
def kindT (t : VT) (n : ByteArray) : Int := ((lookT t n).map VR.kind).getD 0
def clkT (t : VT) (n : ByteArray) : CK0 := ((lookT t n).map VR.clk).getD []
/-- Variables put one behind the other, till one is there. -/
def putT : VT → List VR → VT × Bool
  | t, [] => (t, true)
  | t, v :: l => if thereT t v.name then (t, false) else putT (v :: t) l
/-- Numbers by name. -/
abbrev DT := List (ByteArray × Int)
def lookD (t : DT) (n : ByteArray) : Int := ((t.find? fun e => decide (e.1 = n)).map (·.2)).getD 0
/-- Equations put one behind the other, from number i on, till one is there. -/
def putD : DT → Int → List EQ → DT × Bool
  | t, _, [] => (t, true)
  | t, i, q :: l => if lookD t q.name ≠ 0 then (t, false) else putD ((q.name, i + 1) :: t) (i + 1) l
def CP.tab (c : CP) : VT := (putT [] c.vars).1
def CP.defs (c : CP) : DT := (putD [] 0 c.eqs).1
/-! ### The questions, one by one -/
def longC (c : CP) : Bool := decide (c.eqs.length ≤ 2000) && decide (c.ins.length ≤ 2000) && decide (c.outs.length ≤ 2000) && decide (c.locals.length ≤ 2000) && decide (c.ins.length + c.outs.length + c.locals.length ≤ 2000) && c.eqs.all fun q => decide (q.form ≠ 1) || fitsE q.e
def twiceC (c : CP) : Bool := (putT [] c.vars).2 && (putD [] 0 c.eqs).2
def kindsC (c : CP) : Bool := c.vars.all fun v => decide (width v.kind ≠ 0)
def ownC (c : CP) : DT := (c.owns.map fun v => (v.name, (1 : Int))).reverse
def expsC (p : CE → Bool) (c : CP) : Bool := c.eqs.all fun q => decide (q.form ≠ 1) || partsE p q.e
def namesC (t : VT) (c : CP) : Bool :=
  (c.eqs.all fun q => decide (lookD (ownC c) q.name ≠ 0) && (decide (q.form ≠ 2) || (thereT t q.next && (decide (q.reset = eB) || thereT t q.reset)))) &&
  (c.vars.all fun v => v.clk.all fun e => thereT t e.1) &&
  expsC (fun e => if e.form = 2 ∨ e.form = 9 ∨ e.form = 10 then thereT t e.name else true) c
def missC (d : DT) (c : CP) : Bool := c.owns.all fun v => decide (lookD d v.name ≠ 0)
def kidsC (f : Int) : Int := if f = 1 ∨ f = 2 then 0 else if f = 3 ∨ f = 11 ∨ f = 9 then 1 else if f = 4 ∨ f = 10 then 2 else if f = 5 then 3 else -1
def formQ (t : VT) (q : EQ) : Bool := if q.form = 1 then true else if q.form = 2 then isk (kindT t q.name) q.init else if q.form = 3 then decide (1 ≤ q.period ∧ q.period ≤ 64 ∧ 0 ≤ q.offset ∧ q.offset < q.period) else false
def formsC (t : VT) (c : CP) : Bool := (c.eqs.all fun q => formQ t q) && expsC (fun e => if kidsC e.form ≠ e.kids.length ∨ (e.form = 1 ∧ isk e.kind e.n = false) then false else decide (e.form ≠ 9 ∨ e.n = 0 ∨ e.n = 1)) c
def typeQ (t : VT) (q : EQ) : Bool := if q.form = 1 then decide (kindE (kindT t) q.e = kindT t q.name) else if q.form = 2 then decide (kindT t q.next = kindT t q.name) && (decide (q.reset = eB) || decide (kindT t q.reset = 1)) else if q.form = 3 then decide (kindT t q.name = 1) else true
def typesC (t : VT) (c : CP) : Bool := (c.eqs.all fun q => typeQ t q) && c.vars.all fun v => v.clk.all fun e => decide (kindT t e.1 = 1)
/-! ### Clocks -/
def goesK (k : Bool × CK0) (l : CK0) : Bool := k.1 || decide (k.2 = l)
/-- The clocks of kids, put together; none: they do not go together. -/
def joinK : List (Bool × CK0) → Bool × CK0 → Option (Bool × CK0)
  | [], out => some out
  | k :: l, out => if k.1 then joinK l out else if out.1 then joinK l k else if out.2 = k.2 then joinK l out else none
mutual
/-- An expression's clock; none: it has none. -/
def clkE (t : VT) : CE → Option (Bool × CK0)
  | .mk f _ _ n nm ks => (clkL t ks).bind fun l =>
    if f = 2 then some (false, clkT t nm)
    else if f = 9 then (if goesK (l.getD 0 (false, [])) (clkT t nm) then some (false, clkT t nm ++ [(nm, decide (n = 1))]) else none)
    else if f = 10 then (if goesK (l.getD 0 (false, [])) (clkT t nm ++ [(nm, true)]) ∧ goesK (l.getD 1 (false, [])) (clkT t nm ++ [(nm, false)]) then some (false, clkT t nm) else none)
    else joinK l (true, [])
def clkL (t : VT) : List CE → Option (List (Bool × CK0))
  | [] => some []
  | k :: ks => (clkE t k).bind fun c => (clkL t ks).map (c :: ·)
end
def clockQ (t : VT) (q : EQ) : Bool :=
  if q.form = 1 then (match clkE t q.e with | none => false | some k => goesK k (clkT t q.name))
  else if q.form = 2 then decide (clkT t q.next = clkT t q.name) && (decide (q.reset = eB) || decide (clkT t q.reset = clkT t q.name))
  else if q.form = 3 then decide (clkT t q.name = []) else true
def prefixOk (t : VT) : CK0 → CK0 → Bool
  | _, [] => true
  | p, e :: l => decide (clkT t e.1 = p) && prefixOk t (p ++ [e]) l
def clocksC (t : VT) (c : CP) : Bool := ((c.ins ++ c.outs).all fun v => decide (v.clk = [])) && (c.vars.all fun v => prefixOk t [] v.clk) && c.eqs.all fun q => clockQ t q
/-! ### What hangs on what -/
mutual
/-- The names of an expression's parts, in their order. -/
def readsE : CE → List ByteArray
  | .mk f _ _ _ nm ks => (if f = 2 ∨ f = 9 ∨ f = 10 then [nm] else []) ++ readsL ks
def readsL : List CE → List ByteArray
  | [] => []
  | k :: ks => readsE k ++ readsL ks
end
/-- The equations of a program by name; what stands last counts. -/
def defsH : DT → Int → List EQ → DT
  | t, _, [] => t
  | t, i, q :: l => defsH ((q.name, i + 1) :: t) (i + 1) l
def clksH (c : CP) : VT := c.vars.reverse
def onH (d : DT) (l : List ByteArray) : List Int := l.filterMap fun n => if lookD d n ≠ 0 then some (lookD d n - 1) else none
def namesQ (t : VT) (q : EQ) : List ByteArray := (clkT t q.name).map (·.1) ++ (if q.form = 1 then readsE q.e else if q.form = 2 then (if q.reset = eB then [] else [q.reset]) else [])
def hangsV (c : CP) : List (List Int) := c.eqs.map fun q => onH (defsH [] 0 c.eqs) (namesQ (clksH c) q)
/-! ### A heap of numbers, as the library keeps it -/
def swapV (l : List Int) (i j : Nat) : List Int := (l.set i (l.getD j 0)).set j (l.getD i 0)
def upV : Nat → List Int → Nat → List Int
  | 0, l, _ => l
  | f + 1, l, j => if (j - 1) / 2 = j ∨ ¬ l.getD j 0 < l.getD ((j - 1) / 2) 0 then l else upV f (swapV l ((j - 1) / 2) j) ((j - 1) / 2)
def downV : Nat → List Int → Nat → Nat → List Int
  | 0, l, _, _ => l
  | f + 1, l, i, n =>
    if n ≤ 2 * i + 1 then l else
    if l.getD (if 2 * i + 2 < n ∧ l.getD (2 * i + 2) 0 < l.getD (2 * i + 1) 0 then 2 * i + 2 else 2 * i + 1) 0 < l.getD i 0 then
      downV f (swapV l i (if 2 * i + 2 < n ∧ l.getD (2 * i + 2) 0 < l.getD (2 * i + 1) 0 then 2 * i + 2 else 2 * i + 1)) (if 2 * i + 2 < n ∧ l.getD (2 * i + 2) 0 < l.getD (2 * i + 1) 0 then 2 * i + 2 else 2 * i + 1) n
    else l
def pushV (l : List Int) (x : Int) : List Int := upV (l.length + 1) (l ++ [x]) l.length
/-- What is taken, and what is left. -/
def popV (l : List Int) : Int × List Int := ((downV l.length (swapV l 0 (l.length - 1)) 0 (l.length - 1)).getD (l.length - 1) 0, (downV l.length (swapV l 0 (l.length - 1)) 0 (l.length - 1)).take (l.length - 1))
/-! ### The order -/
/-- Numbers, each once, in the order in which they come first. -/
def onceV : List Int → List Int → List Int
  | _, [] => []
  | seen, w :: l => if w ∈ seen then onceV seen l else w :: onceV (w :: seen) l
def incV (l : List Int) (i : Int) (d : Int) : List Int := l.set i.toNat (l.getD i.toNat 0 + d)
/-- How many others each waits for, and who stands behind each. -/
def waitsV : List (List Int) → Int → List Int × List (List Int) → List Int × List (List Int)
  | [], _, s => s
  | l :: on, v, s => waitsV on (v + 1) ((onceV [] l).foldl (fun (s : List Int × List (List Int)) w => (incV s.1 v 1, s.2.set w.toNat (s.2.getD w.toNat [] ++ [v]))) s)
def readyV : List Int → Int → List Int → List Int
  | [], _, h => h
  | n :: l, v, h => readyV l (v + 1) (if n = 0 then pushV h v else h)
/-- One that is taken: those behind it wait for one less. -/
def freeV : List Int → List Int × List Int → List Int × List Int
  | [], s => s
  | w :: l, s => freeV l (incV s.1 w (-1), if (incV s.1 w (-1)).getD w.toNat 0 = 0 then pushV s.2 w else s.2)
def goV : Nat → List (List Int) → List Int → List Int → List Int → List Int
  | 0, _, _, _, out => out
  | f + 1, behind, waits, h, out => if h = [] then out else
    goV f behind (freeV (behind.getD (popV h).1.toNat []) (waits, (popV h).2)).1 (freeV (behind.getD (popV h).1.toNat []) (waits, (popV h).2)).2 (out ++ [(popV h).1])
def fuelS (on : List (List Int)) : Nat := on.length + (on.map List.length).sum + 1
def sortV (on : List (List Int)) : List Int :=
  goV (fuelS on) (waitsV on 0 (List.replicate on.length 0, List.replicate on.length [])).2 (waitsV on 0 (List.replicate on.length 0, List.replicate on.length [])).1 (readyV (waitsV on 0 (List.replicate on.length 0, List.replicate on.length [])).1 0 []) []
def cyclesC (c : CP) : Bool := decide ((sortV (hangsV c)).length = (hangsV c).length)
/-- What Check tells. -/
def chkC (c : CP) : Int :=
  if longC c = false then 2 else if twiceC c = false then 20 else if kindsC c = false then 22 else if namesC c.tab c = false then 21 else if missC c.defs c = false then 24 else if formsC c.tab c = false then 40 else if typesC c.tab c = false then 22 else if clocksC c.tab c = false then 27 else if cyclesC c = false then 29 else 0
/-! ### A run -/
/-- What a variable has; none: it is not there. -/
abbrev CE0 := List (ByteArray × Int)
def hasR (t : CE0) (n : ByteArray) : Bool := (t.find? fun e => decide (e.1 = n)).isSome
mutual
/-- An expression's value. -/
def evE (of : ByteArray → Int) (t : CE0) : CE → Int
  | .mk f s k n nm l =>
    if f = 1 then n else if f = 2 then getV t nm
    else if f = 3 then (unv s (kindE of (l.getD 0 (.mk 0 0 0 0 ⟨#[]⟩ []))) ((evL of t l).getD 0 0)).1
    else if f = 4 then (binv s (kindE of (l.getD 0 (.mk 0 0 0 0 ⟨#[]⟩ []))) ((evL of t l).getD 0 0) ((evL of t l).getD 1 0)).1
    else if f = 5 then (if (evL of t l).getD 0 0 ≠ 0 then (evL of t l).getD 1 0 else (evL of t l).getD 2 0)
    else if f = 11 then (castv (kindE of (l.getD 0 (.mk 0 0 0 0 ⟨#[]⟩ []))) k ((evL of t l).getD 0 0)).1
    else if f = 9 then (evL of t l).getD 0 0
    else (if getV t nm ≠ 0 then (evL of t l).getD 0 0 else (evL of t l).getD 1 0)
def evL (of : ByteArray → Int) (t : CE0) : List CE → List Int
  | [] => []
  | e :: l => evE of t e :: evL of t l
end
def holdsR (t : CE0) : CK0 → Bool
  | [] => true
  | e :: l => hasR t e.1 && decide ((getV t e.1 ≠ 0) ↔ e.2 = true) && holdsR t l
/-- A tick's state: what memories hold (none: nothing yet), how many ticks there were. -/
abbrev MS := List (Option Int)
def defQ (of : ByteArray → Int) (ms : MS) (tick : Int) (t : CE0) (i : Nat) (q : EQ) : Int :=
  if q.form = 1 then evE of t q.e
  else if q.form = 2 then (match ms.getD i none with | none => q.init | some n => if q.reset = eB ∨ getV t q.reset = 0 then n else q.init)
  else if q.form = 3 then (if tick.tmod q.period = q.offset then 1 else 0) else 0
def stepQ (c : CP) (of : ByteArray → Int) (cl : VT) (ms : MS) (tick : Int) : List Int → CE0 → CE0
  | [], t => t
  | i :: l, t => stepQ c of cl ms tick l (match c.eqs[i.toNat]? with
    | none => t
    | some q => if holdsR t (clkT cl q.name) then (q.name, defQ of ms tick t i.toNat q) :: t else t)
def keepQ (t : CE0) : List EQ → MS → MS
  | [], _ => []
  | _ :: _, [] => []
  | q :: l, m :: ms => (if q.form = 2 ∧ hasR t q.name = true then (if hasR t q.next then some (getV t q.next) else none) else m) :: keepQ t l ms
def insR : List VR → List Int → CE0 → CE0
  | v :: l, n :: r, t => insR l r ((v.name, n) :: t)
  | _, _, t => t
def tickC (c : CP) (of : ByteArray → Int) (cl : VT) (order : List Int) (ms : MS) (tick : Int) (r : List Int) : CE0 := stepQ c of cl ms tick order (insR c.ins r [])
def goC (c : CP) (of : ByteArray → Int) (cl : VT) (order : List Int) : MS → Int → List (List Int) → List (List Int)
  | _, _, [] => []
  | ms, tick, r :: rs => (c.outs.map fun v => getV (tickC c of cl order ms tick r) v.name) :: goC c of cl order (keepQ (tickC c of cl order ms tick r) c.eqs ms) (tick + 1) rs
end Go.Proofs.Ytmommjagndadjaa
namespace Go.Proofs.Ytmommjagndadjaa
open Go.RowKit
set_option linter.unusedSimpArgs false
set_option linter.unusedVariables false
set_option maxRecDepth 100000

/-- The cells of an expression whose kids are shown by kv. -/
def eCell (e : CE) (kv : Value) : List Value := [.int .i64 e.form, .int .i64 e.sub, .int .i64 e.kind, .int .i64 e.n, .string e.name, kv]
def eCells : List CE → List Value → List Value
  | k :: ks, v :: vs => eCell k v ++ eCells ks vs
  | _, _ => []
/-- An expression as a value. -/
def eVal (e : CE) (kv : Value) : Value := .agg #[.int .i64 e.form, .int .i64 e.sub, .int .i64 e.kind, .int .i64 e.n, .string e.name, kv]
mutual
/-- The kids of an expression in memory. -/
def KIn (w : World) : CE → Value → Prop
  | .mk _ _ _ _ _ ks, kv => ∃ kvs, SlC w kv ks.length (eCells ks kvs) ∧ KsIn w ks kvs
def KsIn (w : World) : List CE → List Value → Prop
  | [], kvs => kvs = []
  | k :: ks, kvs => ∃ v vs, kvs = v :: vs ∧ KIn w k v ∧ KsIn w ks vs
end
mutual
theorem KIn.ext {w w' : World} (hx : Ext w w') : ∀ (e : CE) (v : Value), KIn w e v → KIn w' e v
  | .mk _ _ _ _ _ ks, v, h => by
    unfold KIn at h ⊢
    obtain ⟨kvs, h1, h2⟩ := h
    exact ⟨kvs, h1.ext hx, KsIn.ext hx ks kvs h2⟩
theorem KsIn.ext {w w' : World} (hx : Ext w w') : ∀ (ks : List CE) (kvs : List Value), KsIn w ks kvs → KsIn w' ks kvs
  | [], _, h => by unfold KsIn at h ⊢; exact h
  | k :: ks, kvs, h => by
    unfold KsIn at h ⊢
    obtain ⟨v, vs, e, h1, h2⟩ := h
    exact ⟨v, vs, e, KIn.ext hx k v h1, KsIn.ext hx ks vs h2⟩
end
theorem KIn.kids {w : World} {e : CE} {v : Value} (h : KIn w e v) : ∃ kvs, SlC w v e.kids.length (eCells e.kids kvs) ∧ KsIn w e.kids kvs := by
  cases e with
  | mk f s k n nm ks => unfold KIn at h; exact h
theorem KIn.of {w : World} {e : CE} {v : Value} {kvs : List Value} (h1 : SlC w v e.kids.length (eCells e.kids kvs)) (h2 : KsIn w e.kids kvs) : KIn w e v := by
  cases e with
  | mk f s k n nm ks => unfold KIn; exact ⟨kvs, h1, h2⟩
theorem KsIn.at {w : World} : ∀ {ks : List CE} {kvs : List Value} {i : Nat} {k : CE}, KsIn w ks kvs → ks[i]? = some k → ∃ v, KIn w k v ∧ ∀ c u, (eCell k v)[c]? = some u → (eCells ks kvs)[i * 6 + c]? = some u
  | [], _, _, _, _, h => by simp at h
  | x :: ks, kvs, 0, k, h, hk => by
    unfold KsIn at h
    obtain ⟨v, vs, rfl, h1, h2⟩ := h
    simp at hk
    subst hk
    refine ⟨v, h1, fun c u hu => ?_⟩
    rw [eCells, Nat.zero_mul, Nat.zero_add, List.getElem?_append_left]
    · exact hu
    · exact (List.getElem?_eq_some_iff.1 hu).1
  | x :: ks, kvs, i + 1, k, h, hk => by
    unfold KsIn at h
    obtain ⟨v, vs, rfl, h1, h2⟩ := h
    obtain ⟨v', g1, g2⟩ := KsIn.at h2 (by simpa using hk)
    refine ⟨v', g1, fun c u hu => ?_⟩
    have hl : (eCell x v).length = 6 := rfl
    rw [eCells, List.getElem?_append_right (by rw [hl]; omega), hl, show (i + 1) * 6 + c - 6 = i * 6 + c by omega]
    exact g2 c u hu
/-- A kid's six cells, its slice of kids. -/
theorem KIn.at {w : World} {e : CE} {p : Option Addr} {m c : Nat} {i : Nat} {k : CE} (h : KIn w e (.slice p m c)) (hk : e.kids[i]? = some k) : m = e.kids.length ∧ m ≤ c ∧ c ≤ maxLen ∧ ∃ b o kv, p = some ⟨b, o, none⟩ ∧ KIn w k kv ∧ w.cell? ⟨b, o + i * 6, none⟩ = some (.int .i64 k.form) ∧ w.cell? ⟨b, o + i * 6 + 1, none⟩ = some (.int .i64 k.sub) ∧ w.cell? ⟨b, o + i * 6 + 2, none⟩ = some (.int .i64 k.kind) ∧ w.cell? ⟨b, o + i * 6 + 3, none⟩ = some (.int .i64 k.n) ∧ w.cell? ⟨b, o + i * 6 + 4, none⟩ = some (.string k.name) ∧ w.cell? ⟨b, o + i * 6 + 5, none⟩ = some kv ∧ b < w.heap.size := by
  obtain ⟨kvs, h1, h2⟩ := h.kids
  obtain ⟨v, g1, g2⟩ := h2.at hk
  obtain ⟨a', c', e1, h3, h4, h5⟩ := h1
  simp only [Value.slice.injEq] at e1
  obtain ⟨rfl, rfl, rfl⟩ := e1
  obtain ⟨b, o, rfl, c0⟩ := h5 _ _ (g2 0 _ rfl)
  have hh : ∀ c u, (eCell k v)[c]? = some u → w.cell? ⟨b, o + (i * 6 + c), none⟩ = some u := fun c u hu => by
    obtain ⟨b', o', e2, h6⟩ := h5 _ _ (g2 c u hu)
    simp only [Option.some.injEq, Addr.mk.injEq] at e2
    obtain ⟨rfl, rfl, -⟩ := e2
    exact h6
  rw [Nat.add_zero] at c0
  have hh : ∀ c u, (eCell k v)[c]? = some u → w.cell? ⟨b, o + i * 6 + c, none⟩ = some u := fun c u hu => by rw [Nat.add_assoc]; exact hh c u hu
  exact ⟨rfl, h3, h4, b, o, v, rfl, g1, c0, hh 1 _ rfl, hh 2 _ rfl, hh 3 _ rfl, hh 4 _ rfl, hh 5 _ rfl, World.block_lt_of_cell? w _ c0⟩
theorem KIn.slice {w : World} {e : CE} {v : Value} (h : KIn w e v) : ∃ p c, v = .slice p e.kids.length c ∧ e.kids.length ≤ c ∧ c ≤ maxLen := by
  obtain ⟨kvs, h1, -⟩ := h.kids
  obtain ⟨a, c, e1, h2, h3, -⟩ := h1
  exact ⟨a, c, e1, h2, h3⟩
end Go.Proofs.Ytmommjagndadjaa
namespace Go.Proofs.Ytmommjagndadjaa
open Go.RowKit
set_option linter.unusedSimpArgs false
set_option linter.unusedVariables false
set_option maxRecDepth 100000

section
variable {σ : Type}
mutual
/-- A statement, and those within it, with a state; false: it was left. -/
def goS (step : σ → ST → σ × Bool) : ST → σ → σ × Bool
  | .mk f nm e t l, a =>
    if (step a (.mk f nm e t l)).2 = false then ((step a (.mk f nm e t l)).1, false) else
    if f ≠ 3 then ((step a (.mk f nm e t l)).1, true) else
    if (goL step t (step a (.mk f nm e t l)).1).2 = false then ((goL step t (step a (.mk f nm e t l)).1).1, false) else
    goL step l (goL step t (step a (.mk f nm e t l)).1).1
def goL (step : σ → ST → σ × Bool) : List ST → σ → σ × Bool
  | [], a => (a, true)
  | s :: ss, a => if (goS step s a).2 = false then ((goS step s a).1, false) else goL step ss (goS step s a).1
end
mutual
/-- An expression's parts with a state; false: it was left. -/
def gpE (step : σ → CE → σ × Bool) : CE → σ → σ × Bool
  | .mk f s k n nm ks, a => if (step a (.mk f s k n nm ks)).2 = false then ((step a (.mk f s k n nm ks)).1, false) else gpL step ks (step a (.mk f s k n nm ks)).1
def gpL (step : σ → CE → σ × Bool) : List CE → σ → σ × Bool
  | [], a => (a, true)
  | k :: ks, a => if (gpE step k a).2 = false then ((gpE step k a).1, false) else gpL step ks (gpE step k a).1
end
theorem goS_eq (step : σ → ST → σ × Bool) (s : ST) (a : σ) : goS step s a = (if (step a s).2 = false then ((step a s).1, false) else if s.form ≠ 3 then ((step a s).1, true) else if (goL step s.thn (step a s).1).2 = false then ((goL step s.thn (step a s).1).1, false) else goL step s.els (goL step s.thn (step a s).1).1) := by
  cases s with
  | mk f nm e t l => rw [goS]; rfl
theorem gpE_eq (step : σ → CE → σ × Bool) (e : CE) (a : σ) : gpE step e a = (if (step a e).2 = false then ((step a e).1, false) else gpL step e.kids (step a e).1) := by
  cases e with
  | mk f s k n nm ks => rw [gpE]; rfl
theorem goL_step (step : σ → ST → σ × Bool) {l : List ST} {k : Nat} {s : ST} (h : l[k]? = some s) (a : σ) : goL step (l.drop k) a = if (goS step s a).2 = false then ((goS step s a).1, false) else goL step (l.drop (k + 1)) (goS step s a).1 := by
  obtain ⟨h1, rfl⟩ := List.getElem?_eq_some_iff.1 h
  rw [List.drop_eq_getElem_cons h1, goL]
theorem gpL_step (step : σ → CE → σ × Bool) {l : List CE} {k : Nat} {s : CE} (h : l[k]? = some s) (a : σ) : gpL step (l.drop k) a = if (gpE step s a).2 = false then ((gpE step s a).1, false) else gpL step (l.drop (k + 1)) (gpE step s a).1 := by
  obtain ⟨h1, rfl⟩ := List.getElem?_eq_some_iff.1 h
  rw [List.drop_eq_getElem_cons h1, gpL]
theorem gpE_no {step : σ → CE → σ × Bool} {e : CE} {a a1 : σ} (h : (a1, false) = step a e) : gpE step e a = (a1, false) := by
  rw [gpE_eq, ← h]; simp
theorem gpE_yes {step : σ → CE → σ × Bool} {e : CE} {a a1 : σ} (h : (a1, true) = step a e) : gpE step e a = gpL step e.kids a1 := by
  rw [gpE_eq, ← h]; simp
theorem gpL_no {step : σ → CE → σ × Bool} {l : List CE} {k : Nat} {s : CE} {a a1 : σ} (hk : l[k]? = some s) (h : (a1, false) = gpE step s a) : gpL step (l.drop k) a = (a1, false) := by
  rw [gpL_step step hk, ← h]; simp
theorem gpL_yes {step : σ → CE → σ × Bool} {l : List CE} {k : Nat} {s : CE} {a a1 : σ} (hk : l[k]? = some s) (h : (a1, true) = gpE step s a) : gpL step (l.drop k) a = gpL step (l.drop (k + 1)) a1 := by
  rw [gpL_step step hk, ← h]; simp
theorem gpL_end {step : σ → CE → σ × Bool} {l : List CE} {k : Nat} {a : σ} (hk : k = l.length) : gpL step (l.drop k) a = (a, true) := by
  rw [hk, List.drop_length, gpL]
theorem goL_no {step : σ → ST → σ × Bool} {l : List ST} {k : Nat} {s : ST} {a a1 : σ} (hk : l[k]? = some s) (h : goS step s a = (a1, false)) : goL step (l.drop k) a = (a1, false) := by
  rw [goL_step step hk, h]; simp
theorem goL_yes {step : σ → ST → σ × Bool} {l : List ST} {k : Nat} {s : ST} {a a1 : σ} (hk : l[k]? = some s) (h : goS step s a = (a1, true)) : goL step (l.drop k) a = goL step (l.drop (k + 1)) a1 := by
  rw [goL_step step hk, h]; simp
theorem goL_end {step : σ → ST → σ × Bool} {l : List ST} {k : Nat} {a : σ} (hk : k = l.length) : goL step (l.drop k) a = (a, true) := by
  rw [hk, List.drop_length, goL]
theorem goS_no {step : σ → ST → σ × Bool} {s : ST} {a a1 : σ} (h : (a1, false) = step a s) : goS step s a = (a1, false) := by
  rw [goS_eq, ← h]; simp
theorem goS_flat {step : σ → ST → σ × Bool} {s : ST} {a a1 : σ} (h : (a1, true) = step a s) (hf : s.form ≠ 3) : goS step s a = (a1, true) := by
  rw [goS_eq, ← h]; simp [hf]
theorem goS_thn {step : σ → ST → σ × Bool} {s : ST} {a a1 a2 : σ} (h : (a1, true) = step a s) (hf : s.form = 3) (h2 : (a2, false) = goL step s.thn a1) : goS step s a = (a2, false) := by
  rw [goS_eq, ← h]; simp [hf, ← h2]
theorem goS_els {step : σ → ST → σ × Bool} {s : ST} {a a1 a2 : σ} (h : (a1, true) = step a s) (hf : s.form = 3) (h2 : (a2, true) = goL step s.thn a1) : goS step s a = goL step s.els a2 := by
  rw [goS_eq, ← h]; simp [hf, ← h2]
end
/-! ### Questions alone -/
mutual
theorem goS_ask (p : ST → Bool) : ∀ s : ST, (goS (fun (_ : Unit) x => ((), p x)) s ()).2 = eachS p s
  | .mk f nm e t l => by
    have h1 := goL_ask p t
    have h2 := goL_ask p l
    rw [goS, eachS]
    cases hp : p (.mk f nm e t l) with
    | false => simp
    | true =>
      by_cases hf : f = 3
      · subst hf
        simp only [Bool.true_eq_false, ↓reduceIte, ne_eq, not_true_eq_false, decide_false, Bool.false_or, Bool.true_and, h1]
        cases ht : eachL p t with
        | false => simp
        | true => simp [h2]
      · simp [hf]
theorem goL_ask (p : ST → Bool) : ∀ l : List ST, (goL (fun (_ : Unit) x => ((), p x)) l ()).2 = eachL p l
  | [] => by rw [goL, eachL]
  | s :: ss => by
    have h1 := goS_ask p s
    have h2 := goL_ask p ss
    rw [goL, eachL, h1]
    cases hs : eachS p s with
    | false => simp
    | true => simp [h2]
end
mutual
theorem gpE_ask (p : CE → Bool) : ∀ s : CE, (gpE (fun (_ : Unit) x => ((), p x)) s ()).2 = partsE p s
  | .mk f s k n nm ks => by
    have h1 := gpL_ask p ks
    rw [gpE, partsE]
    cases hp : p (.mk f s k n nm ks) with
    | false => simp
    | true => simp [h1]
theorem gpL_ask (p : CE → Bool) : ∀ l : List CE, (gpL (fun (_ : Unit) x => ((), p x)) l ()).2 = partsL p l
  | [] => by rw [gpL, partsL]
  | s :: ss => by
    have h1 := gpE_ask p s
    have h2 := gpL_ask p ss
    rw [gpL, partsL, h1]
    cases hs : partsE p s with
    | false => simp
    | true => simp [h2]
end
/-! ### Sizes -/
theorem ST.size_thn (s : ST) : SizeOf.sizeOf s.thn < SizeOf.sizeOf s := by
  cases s with
  | mk f nm e t l => show SizeOf.sizeOf t < _; simp; omega
theorem ST.size_els (s : ST) : SizeOf.sizeOf s.els < SizeOf.sizeOf s := by
  cases s with
  | mk f nm e t l => show SizeOf.sizeOf l < _; simp; omega
theorem CE.size_kids (s : CE) : SizeOf.sizeOf s.kids < SizeOf.sizeOf s := by
  cases s with
  | mk f b k n nm ks => show SizeOf.sizeOf ks < _; simp; omega
theorem size_at {α : Type} [SizeOf α] {l : List α} {k : Nat} {s : α} (h : l[k]? = some s) : SizeOf.sizeOf s < SizeOf.sizeOf l := List.sizeOf_lt_of_mem (List.mem_of_getElem? h)
end Go.Proofs.Ytmommjagndadjaa
namespace Go.Proofs.Ytmommjagndadjaa
open Go.RowKit
set_option linter.unusedSimpArgs false
set_option linter.unusedVariables false
set_option maxRecDepth 100000

/-- The slices of a statement: its expression's kids, then, else. -/
structure S3 where
  kv : Value
  tv : Value
  ev : Value
/-- The cells of a statement. -/
def sCell (s : ST) (x : S3) : List Value := [.int .i64 s.form, .string s.name] ++ eCell s.e x.kv ++ [x.tv, x.ev]
def sCells : List ST → List S3 → List Value
  | s :: ss, x :: xs => sCell s x ++ sCells ss xs
  | _, _ => []
/-- A statement as a value. -/
def sVal (s : ST) (x : S3) : Value := .agg #[.int .i64 s.form, .string s.name, .int .i64 s.e.form, .int .i64 s.e.sub, .int .i64 s.e.kind, .int .i64 s.e.n, .string s.e.name, x.kv, x.tv, x.ev]
mutual
def SIn (w : World) : ST → S3 → Prop
  | .mk _ _ e t l, x => KIn w e x.kv ∧ (∃ xs, SlC w x.tv t.length (sCells t xs) ∧ SsIn w t xs) ∧ (∃ xs, SlC w x.ev l.length (sCells l xs) ∧ SsIn w l xs)
def SsIn (w : World) : List ST → List S3 → Prop
  | [], xs => xs = []
  | s :: ss, xs => ∃ y ys, xs = y :: ys ∧ SIn w s y ∧ SsIn w ss ys
end
/-- Statements that a slice shows. -/
def BIn (w : World) (v : Value) (l : List ST) : Prop := ∃ xs, SlC w v l.length (sCells l xs) ∧ SsIn w l xs
mutual
theorem SIn.ext {w w' : World} (hx : Ext w w') : ∀ (s : ST) (x : S3), SIn w s x → SIn w' s x
  | .mk _ _ e t l, x, h => by
    unfold SIn at h ⊢
    obtain ⟨h1, ⟨ys, h2, h3⟩, ⟨zs, h4, h5⟩⟩ := h
    exact ⟨KIn.ext hx e _ h1, ⟨ys, h2.ext hx, SsIn.ext hx t ys h3⟩, ⟨zs, h4.ext hx, SsIn.ext hx l zs h5⟩⟩
theorem SsIn.ext {w w' : World} (hx : Ext w w') : ∀ (ss : List ST) (xs : List S3), SsIn w ss xs → SsIn w' ss xs
  | [], _, h => by unfold SsIn at h ⊢; exact h
  | s :: ss, xs, h => by
    unfold SsIn at h ⊢
    obtain ⟨y, ys, e, h1, h2⟩ := h
    exact ⟨y, ys, e, SIn.ext hx s y h1, SsIn.ext hx ss ys h2⟩
end
theorem BIn.ext {w w' : World} {v : Value} {l : List ST} (h : BIn w v l) (hx : Ext w w') : BIn w' v l := by
  obtain ⟨xs, h1, h2⟩ := h
  exact ⟨xs, h1.ext hx, SsIn.ext hx l xs h2⟩
theorem SIn.parts {w : World} {s : ST} {x : S3} (h : SIn w s x) : KIn w s.e x.kv ∧ BIn w x.tv s.thn ∧ BIn w x.ev s.els := by
  cases s with
  | mk f nm e t l => unfold SIn at h; exact h
theorem SsIn.at {w : World} : ∀ {ss : List ST} {xs : List S3} {i : Nat} {s : ST}, SsIn w ss xs → ss[i]? = some s → ∃ x, SIn w s x ∧ ∀ c u, (sCell s x)[c]? = some u → (sCells ss xs)[i * 10 + c]? = some u
  | [], _, _, _, _, h => by simp at h
  | y :: ss, xs, 0, s, h, hs => by
    unfold SsIn at h
    obtain ⟨v, vs, rfl, h1, h2⟩ := h
    simp at hs
    subst hs
    refine ⟨v, h1, fun c u hu => ?_⟩
    rw [sCells, Nat.zero_mul, Nat.zero_add, List.getElem?_append_left]
    · exact hu
    · exact (List.getElem?_eq_some_iff.1 hu).1
  | y :: ss, xs, i + 1, s, h, hs => by
    unfold SsIn at h
    obtain ⟨v, vs, rfl, h1, h2⟩ := h
    obtain ⟨v', g1, g2⟩ := SsIn.at h2 (by simpa using hs)
    refine ⟨v', g1, fun c u hu => ?_⟩
    have hl : (sCell y v).length = 10 := rfl
    rw [sCells, List.getElem?_append_right (by rw [hl]; omega), hl, show (i + 1) * 10 + c - 10 = i * 10 + c by omega]
    exact g2 c u hu
theorem BIn.slice {w : World} {v : Value} {l : List ST} (h : BIn w v l) : ∃ p c, v = .slice p l.length c ∧ l.length ≤ c ∧ c ≤ maxLen := by
  obtain ⟨xs, h1, -⟩ := h
  obtain ⟨a, c, e1, h2, h3, -⟩ := h1
  exact ⟨a, c, e1, h2, h3⟩
/-- A statement's ten cells. -/
theorem BIn.at {w : World} {l : List ST} {p : Option Addr} {m c i : Nat} {s : ST} (h : BIn w (.slice p m c) l) (hs : l[i]? = some s) : ∃ b o x, p = some ⟨b, o, none⟩ ∧ SIn w s x ∧ (∀ k u, (sCell s x)[k]? = some u → w.cell? ⟨b, o + i * 10 + k, none⟩ = some u) ∧ b < w.heap.size := by
  obtain ⟨xs, h1, h2⟩ := h
  obtain ⟨x, g1, g2⟩ := h2.at hs
  obtain ⟨a', c', e1, h3, h4, h5⟩ := h1
  simp only [Value.slice.injEq] at e1
  obtain ⟨rfl, rfl, rfl⟩ := e1
  obtain ⟨b, o, rfl, c0⟩ := h5 _ _ (g2 0 _ rfl)
  refine ⟨b, o, x, rfl, g1, fun k u hu => ?_, World.block_lt_of_cell? w _ c0⟩
  obtain ⟨b', o', e2, h6⟩ := h5 _ _ (g2 k u hu)
  simp only [Option.some.injEq, Addr.mk.injEq] at e2
  obtain ⟨rfl, rfl, -⟩ := e2
  rw [Nat.add_assoc]
  exact h6
end Go.Proofs.Ytmommjagndadjaa
namespace Go.Proofs.Ytmommjagndadjaa
open Go.RowKit
set_option linter.unusedSimpArgs false
set_option linter.unusedVariables false
set_option maxRecDepth 100000

mutual
def okE : CE → Prop
  | .mk f s k n nm ks => I64 f ∧ I64 s ∧ I64 k ∧ I64 n ∧ nm.size ≤ maxLen ∧ okK ks
def okK : List CE → Prop
  | [] => True
  | k :: ks => okE k ∧ okK ks
end
theorem okK.at : ∀ {l : List CE} {k : Nat} {e : CE}, okK l → l[k]? = some e → okE e
  | [], _, _, _, h => by simp at h
  | x :: l, 0, e, h, hk => by
    unfold okK at h
    simp at hk
    subst hk
    exact h.1
  | x :: l, k + 1, e, h, hk => by
    unfold okK at h
    exact okK.at h.2 (by simpa using hk)
theorem okE.kids {e : CE} (h : okE e) : okK e.kids := by
  cases e with
  | mk f s k n nm ks => unfold okE at h; exact h.2.2.2.2.2
theorem okE.name {e : CE} (h : okE e) : e.name.size ≤ maxLen := by
  cases e with
  | mk f s k n nm ks => unfold okE at h; exact h.2.2.2.2.1
theorem okE.ints {e : CE} (h : okE e) : I64 e.form ∧ I64 e.sub ∧ I64 e.kind ∧ I64 e.n := by
  cases e with
  | mk f s k n nm ks => unfold okE at h; exact ⟨h.1, h.2.1, h.2.2.1, h.2.2.2.1⟩
/-- What is told where a state goes along. -/
def RetB {σ : Type} (S : List Nat) (St : σ → World → Prop) (r : σ × Bool) (w : World) (e : Ending) (w' : World) : Prop :=
  e = .returned (.bool r.2) ∧ Hid (Kb S w w' ∧ St r.1 w')
/-- A function value that asks something of an expression, with a state. -/
structure CloP {σ : Type} (W0 : World) (S : List Nat) (St : σ → World → Prop) (step : σ → CE → σ × Bool) (fn : FuncId) (caps : Array Value) : Prop where
  st : ∀ a w w', St a w → Ext w w' → St a w'
  off : ∀ k ∈ S, W0.heap.size ≤ k
  lts : ∀ a w, St a w → ∀ k ∈ S, k < w.heap.size
  enter : ∀ args w, Sem.run Try.prog (callFunc fn args) w = .ok (.enter fn args) w
  call : ∀ a w e kv, Ext W0 w → St a w → KIn W0 e kv → okE e → Calls Try.prog fn (#[eVal e kv] ++ caps) w (RetB S St (step a e) w)
end Go.Proofs.Ytmommjagndadjaa
namespace Go.Proofs.Ytmommjagndadjaa
open Go.RowKit
set_option linter.unusedSimpArgs false
set_option linter.unusedVariables false
set_option maxRecDepth 100000

mutual
def okS : ST → Prop
  | .mk f nm e t l => I64 f ∧ nm.size ≤ maxLen ∧ okE e ∧ okL t ∧ okL l
def okL : List ST → Prop
  | [] => True
  | k :: ks => okS k ∧ okL ks
end
theorem okL.at : ∀ {l : List ST} {k : Nat} {e : ST}, okL l → l[k]? = some e → okS e
  | [], _, _, _, h => by simp at h
  | x :: l, 0, e, h, hk => by
    unfold okL at h
    simp at hk
    subst hk
    exact h.1
  | x :: l, k + 1, e, h, hk => by
    unfold okL at h
    exact okL.at h.2 (by simpa using hk)
theorem okS.parts {s : ST} (h : okS s) : I64 s.form ∧ s.name.size ≤ maxLen ∧ okE s.e ∧ okL s.thn ∧ okL s.els := by
  cases s with
  | mk f nm e t l => unfold okS at h; exact h
mutual
/-- All statements that are gone over. -/
def allS (P : ST → Prop) : ST → Prop
  | .mk f nm e t l => P (.mk f nm e t l) ∧ (f = 3 → allL P t ∧ allL P l)
def allL (P : ST → Prop) : List ST → Prop
  | [] => True
  | k :: ks => allS P k ∧ allL P ks
end
theorem allL.at {P : ST → Prop} : ∀ {l : List ST} {k : Nat} {e : ST}, allL P l → l[k]? = some e → allS P e
  | [], _, _, _, h => by simp at h
  | x :: l, 0, e, h, hk => by
    unfold allL at h
    simp at hk
    subst hk
    exact h.1
  | x :: l, k + 1, e, h, hk => by
    unfold allL at h
    exact allL.at h.2 (by simpa using hk)
theorem allS.here {P : ST → Prop} {s : ST} (h : allS P s) : P s ∧ (s.form = 3 → allL P s.thn ∧ allL P s.els) := by
  cases s with
  | mk f nm e t l => unfold allS at h; exact h
mutual
theorem okS.all : ∀ {s : ST}, okS s → allS okS s
  | .mk f nm e t l, h => by
    have h1 := h
    unfold okS at h1
    unfold allS
    exact ⟨h, fun _ => ⟨okL.all h1.2.2.2.1, okL.all h1.2.2.2.2⟩⟩
theorem okL.all : ∀ {l : List ST}, okL l → allL okS l
  | [], _ => by unfold allL; trivial
  | s :: ss, h => by
    unfold okL at h
    unfold allL
    exact ⟨okS.all h.1, okL.all h.2⟩
end
/-- A function value that asks something of a statement, with a state. -/
structure CloG {σ : Type} (W0 : World) (S : List Nat) (St : σ → World → Prop) (step : σ → ST → σ × Bool) (fn : FuncId) (caps : Array Value) (P : ST → Prop) : Prop where
  st : ∀ a w w', St a w → Ext w w' → St a w'
  off : ∀ k ∈ S, W0.heap.size ≤ k
  lts : ∀ a w, St a w → ∀ k ∈ S, k < w.heap.size
  enter : ∀ args w, Sem.run Try.prog (callFunc fn args) w = .ok (.enter fn args) w
  call : ∀ a w s x, Ext W0 w → St a w → SIn W0 s x → P s → Calls Try.prog fn (#[sVal s x] ++ caps) w (RetB S St (step a s) w)
abbrev CloS {σ : Type} (W0 : World) (S : List Nat) (St : σ → World → Prop) (step : σ → ST → σ × Bool) (fn : FuncId) (caps : Array Value) : Prop := CloG W0 S St step fn caps okS
end Go.Proofs.Ytmommjagndadjaa
namespace Go.Proofs.Ytmommjagndadjaa
open Go.RowKit
set_option linter.unusedSimpArgs false
set_option linter.unusedVariables false
set_option maxRecDepth 100000

theorem sizeK_step {l : List CE} {j : Nat} {x : CE} (h : l[j]? = some x) (most deep n : Int) : sizeK (l.drop j) most deep n = if (sizeE x (most - n) (deep + 1)).2 = false ∨ most < n + (sizeE x (most - n) (deep + 1)).1 then (n + (sizeE x (most - n) (deep + 1)).1, false) else sizeK (l.drop (j + 1)) most deep (n + (sizeE x (most - n) (deep + 1)).1) := by
  obtain ⟨h1, rfl⟩ := List.getElem?_eq_some_iff.1 h
  rw [List.drop_eq_getElem_cons h1, sizeK]
theorem sizeK_no {l : List CE} {j : Nat} {x : CE} (h : l[j]? = some x) {most deep n m : Int} (h2 : (m, false) = sizeE x (most - n) (deep + 1)) : sizeK (l.drop j) most deep n = (n + m, false) := by
  rw [sizeK_step h, ← h2]; simp
theorem sizeK_much {l : List CE} {j : Nat} {x : CE} (h : l[j]? = some x) {most deep n m : Int} (h2 : (m, true) = sizeE x (most - n) (deep + 1)) (h3 : most < n + m) : sizeK (l.drop j) most deep n = (n + m, false) := by
  rw [sizeK_step h, ← h2]; simp [h3]
theorem sizeK_yes {l : List CE} {j : Nat} {x : CE} (h : l[j]? = some x) {most deep n m : Int} (h2 : (m, true) = sizeE x (most - n) (deep + 1)) (h3 : ¬ most < n + m) : sizeK (l.drop j) most deep n = sizeK (l.drop (j + 1)) most deep (n + m) := by
  rw [sizeK_step h, ← h2]; simp [h3]
theorem sizeK_end {l : List CE} {j : Nat} {most deep n : Int} (h : j = l.length) : sizeK (l.drop j) most deep n = (n, decide (n ≤ most)) := by
  rw [h, List.drop_length, sizeK]
theorem sizeE_deep (e : CE) {most deep : Int} (h : 400 < deep) : sizeE e most deep = (0, false) := by
  cases e with
  | mk f s k n nm ks => rw [sizeE, if_pos h]
theorem sizeE_kids (e : CE) {most deep : Int} (h : ¬ 400 < deep) : sizeE e most deep = sizeK e.kids most deep 1 := by
  cases e with
  | mk f s k n nm ks => rw [sizeE, if_neg h]; rfl
def RetIB (r : Int × Bool) (w : World) (e : Ending) (w' : World) : Prop := e = .returned (.tuple #[.int .i64 r.1, .bool r.2]) ∧ Hid (Ext w w')
/-- What a question tells that leaves the old memory alone. -/
def RetQ (b : Bool) (w : World) (e : Ending) (w' : World) : Prop := e = .returned (.bool b) ∧ Hid (Ext w w')
set_option maxHeartbeats 8000000 in
theorem size_any : ∀ (N : Nat) (e : CE), SizeOf.sizeOf e < N → ∀ (kv : Value) (most deep : Int) (w : World), KIn w e kv → 1 ≤ deep → deep ≤ 401 → -deep ≤ most → most ≤ 2000 →
    Calls Try.prog 68 #[eVal e kv, .int .i64 most, .int .i64 deep] w (RetIB (sizeE e most deep) w) := by
  intro N
  induction N with
  | zero => intro e h; omega
  | succ N ih =>
    intro e hN kv most deep w hk hd1 hd2 hm1 hm2
    have HIH := Lib.hid ih
    have HW := Lib.hid (And.intro hN hk)
    obtain ⟨R, hR⟩ : ∃ R, R = sizeE e most deep := ⟨_, rfl⟩
    rw [← hR]
    obtain ⟨Q, hQ⟩ : ∃ Q, Q = RetIB R w := ⟨_, rfl⟩
    rw [← hQ]
    have HQ := Lib.hid hQ
    have HR := Lib.hid hR
    obtain ⟨p, c, rfl, hkc, hcm⟩ := hk.slice
    obtain ⟨n, hn⟩ : ∃ n, n = e.kids.length := ⟨_, rfl⟩
    rw [← hn] at hkc ⊢
    have hcI : (c : Int) ≤ 9223372036854775807 := by unfold maxLen at hcm; omega
    clear hcm
    have HN := Lib.hid hn
    obtain ⟨f, hf⟩ : ∃ f, f = e.form := ⟨_, rfl⟩
    obtain ⟨s, hs⟩ : ∃ s, s = e.sub := ⟨_, rfl⟩
    obtain ⟨k, hk2⟩ : ∃ s, s = e.kind := ⟨_, rfl⟩
    obtain ⟨nn, hnn⟩ : ∃ s, s = e.n := ⟨_, rfl⟩
    obtain ⟨nm, hnm⟩ : ∃ s, s = e.name := ⟨_, rfl⟩
    have HE := Lib.hid (show eVal e (.slice p n c) = .agg #[.int .i64 f, .int .i64 s, .int .i64 k, .int .i64 nn, .string nm, .slice p n c] by rw [hf, hs, hk2, hnn, hnm]; rfl)
    rw [HE.out]
    clear hQ hR hn hf hs hk2 hnn hnm hk hN ih
    go_enter Try.func68, Try.ntmps68
    go_upto_region 1 with fail
    have hbx : BoxV w.heap.size [.int .i64 f, .int .i64 s, .int .i64 k, .int .i64 nn, .string nm, .slice p n c] (w.alloc (.cells #[.int .i64 f, .int .i64 s, .int .i64 k, .int .i64 nn, .string nm, .slice p n c] 33)) := BoxV.of_row (heap_alloc_last w _)
    have hxb : Ext w (w.alloc (.cells #[.int .i64 f, .int .i64 s, .int .i64 k, .int .i64 nn, .string nm, .slice p n c] 33)) := (Ext.refl w).alloc _
    generalize w.alloc (.cells #[.int .i64 f, .int .i64 s, .int .i64 k, .int .i64 nn, .string nm, .slice p n c] 33) = wb at hbx hxb ⊢
    generalize w.heap.size = X at hbx ⊢
    have HB := Lib.hid hxb
    have p5 := hbx.cells 5 _ rfl
    have hxl := hbx.lt
    clear hbx hxb
    by_cases hdp : 400 < deep
    · go_wp2
      rw [HQ.out, HR.out, sizeE_deep e hdp]
      exact ⟨rfl, HB⟩
    have HDP := Lib.hid hdp
    have hR2 : Hid (R = sizeK e.kids most deep 1) := Lib.hid (by rw [HR.out, sizeE_kids e hdp])
    have hd3 : deep ≤ 400 := by omega
    clear hd2
    go_upto_region 5 with fail
    go_loopw [8, 18] (fun v i wr => ∃ (j : Nat) (a : Int), j ≤ n ∧ i = .int .i64 (j : Int) ∧ v = .int .i64 a ∧ 1 ≤ a ∧ a ≤ max most 1 ∧ Hid (Ext wb wr) ∧ Hid (R = sizeK (e.kids.drop j) most deep a)) (fun _ i _ => n - (intOf i).toNat)
    case atStart => exact ⟨0, 1, Nat.zero_le _, rfl, rfl, Int.le_refl _, by omega, Lib.hid (Ext.refl _), Lib.hid (by rw [hR2.out]; rfl)⟩
    case round =>
      obtain ⟨j, a, hj, rfl, rfl, ha1, ha2, HS, HRR⟩ := hrel
      have ha3 : a ≤ 2000 := by omega
      by_cases hlt : j < n
      · have hki : (j : Int) < (n : Int) := Int.ofNat_lt.2 hlt
        obtain ⟨x, hx⟩ : ∃ x, e.kids[j]? = some x := ⟨_, List.getElem?_eq_getElem (by have := HN.out; omega)⟩
        have hxw : Ext w wr := HB.out.trans HS.out
        have hkw := HW.out.2
        rw [← HN.out] at hkw
        obtain ⟨-, -, -, b, o, xv, rfl, hkx, c0, c1, c2, c3, c4, c5, hbl⟩ := (hkw.ext hxw).at hx
        obtain ⟨q, d, rfl, -, -⟩ := hkx.slice
        obtain ⟨m, hm⟩ : ∃ m, m = x.kids.length := ⟨_, rfl⟩
        have hjc : j < c := by omega
        have HX := Lib.hid (And.intro hx (And.intro hxw (And.intro hkx hm)))
        have HEX := Lib.hid (show eVal x (.slice q x.kids.length d) = .agg #[.int .i64 x.form, .int .i64 x.sub, .int .i64 x.kind, .int .i64 x.n, .string x.name, .slice q m d] by rw [hm]; rfl)
        rw [← hm] at c5
        clear hx hxw hkx hkw hm
        have hsub : Hid (-(deep + 1) ≤ most - a) := Lib.hid (by omega)
        have hbd := sizeE_bd x (most - a) (deep + 1) (by omega)
        obtain ⟨r, hr⟩ : ∃ r, r = sizeE x (most - a) (deep + 1) := ⟨_, rfl⟩
        rw [← hr] at hbd
        have HRx := Lib.hid hr
        go_upto_region 7 with fail
        have hxa : Ext wr (wr.alloc (.cells #[.int .i64 x.form, .int .i64 x.sub, .int .i64 x.kind, .int .i64 x.n, .string x.name, .slice q m d] 33)) := (Ext.refl wr).alloc _
        have HXA := Lib.hid hxa
        have HF : Hid (Calls Try.prog 68 #[.agg #[.int .i64 x.form, .int .i64 x.sub, .int .i64 x.kind, .int .i64 x.n, .string x.name, .slice q m d], .int .i64 (most - a), .int .i64 (deep + 1)] (wr.alloc (.cells #[.int .i64 x.form, .int .i64 x.sub, .int .i64 x.kind, .int .i64 x.n, .string x.name, .slice q m d] 33)) (RetIB r (wr.alloc (.cells #[.int .i64 x.form, .int .i64 x.sub, .int .i64 x.kind, .int .i64 x.n, .string x.name, .slice q m d] 33)))) := Lib.hid (by
          rw [hr, ← HEX.out]
          have hs1 := CE.size_kids e
          have hs2 := size_at HX.out.1
          have hN := HW.out.1
          exact HIH.out x (by omega) _ _ _ _ (HX.out.2.2.1.ext hxa) (by omega) (by omega) hsub.out (by omega))
        clear hr hxa
        rcases r with ⟨t, ok⟩
        simp only at hbd
        have ht0 := hbd.1
        have ht1 : t ≤ 3000 := by omega
        clear hbd
        cases ok with
        | false =>
          go_wp2_with (first | (go_at_call 68; refine HF.out.mono ?_; rintro e1 w2 ⟨rfl, H2⟩) | fail)
          rw [HQ.out, HRR.out, sizeK_no HX.out.1 HRx.out]
          exact ⟨rfl, Lib.hid ((HB.out.trans HS.out).trans (HXA.out.trans H2.out))⟩
        | true =>
          by_cases hmt : most < a + t
          · go_wp2_with (first | (go_at_call 68; refine HF.out.mono ?_; rintro e1 w2 ⟨rfl, H2⟩) | fail)
            rw [HQ.out, HRR.out, sizeK_much HX.out.1 HRx.out hmt]
            exact ⟨rfl, Lib.hid ((HB.out.trans HS.out).trans (HXA.out.trans H2.out))⟩
          · go_wp2_with (first | (go_at_call 68; refine HF.out.mono ?_; rintro e1 w2 ⟨rfl, H2⟩) | fail)
            refine ⟨⟨j + 1, a + t, by omega, by go_num, rfl, by omega, by omega, Lib.hid (HS.out.trans (HXA.out.trans H2.out)), Lib.hid ?_⟩, by simp [intOf]; omega⟩
            rw [HRR.out, sizeK_yes HX.out.1 HRx.out (Int.not_lt.2 hmt)]
      · have hki : ¬ (j : Int) < (n : Int) := fun e => hlt (Int.ofNat_lt.1 e)
        obtain rfl : j = n := by omega
        go_wp2
        rw [HQ.out, HRR.out, sizeK_end HN.out]
        exact ⟨by simp, Lib.hid (HB.out.trans HS.out)⟩
set_option maxHeartbeats 4000000 in
/-- Fits. -/
theorem fitsE_any (e : CE) (kv : Value) (w : World) (hk : KIn w e kv) :
    Calls Try.prog 51 #[eVal e kv] w (RetQ (fitsE e) w) := by
  obtain ⟨R, hR⟩ : ∃ R, R = fitsE e := ⟨_, rfl⟩
  rw [← hR]
  obtain ⟨Q, hQ⟩ : ∃ Q, Q = RetQ R w := ⟨_, rfl⟩
  rw [← hQ]
  have HQ := Lib.hid hQ
  clear hQ
  have HR := Lib.hid hR
  have HK := Lib.hid hk
  obtain ⟨p, c, rfl, -, -⟩ := hk.slice
  obtain ⟨n, hn⟩ : ∃ n, n = e.kids.length := ⟨_, rfl⟩
  have HE := Lib.hid (show eVal e (.slice p e.kids.length c) = .agg #[.int .i64 e.form, .int .i64 e.sub, .int .i64 e.kind, .int .i64 e.n, .string e.name, .slice p n c] by rw [hn]; rfl)
  rw [HE.out]
  have HX : Hid (Ext w (w.alloc (.cells #[.int .i64 e.form, .int .i64 e.sub, .int .i64 e.kind, .int .i64 e.n, .string e.name, .slice p n c] 33))) := Lib.hid ((Ext.refl w).alloc _)
  have HF : Hid (Calls Try.prog 68 #[.agg #[.int .i64 e.form, .int .i64 e.sub, .int .i64 e.kind, .int .i64 e.n, .string e.name, .slice p n c], .int .i64 2000, .int .i64 1] (w.alloc (.cells #[.int .i64 e.form, .int .i64 e.sub, .int .i64 e.kind, .int .i64 e.n, .string e.name, .slice p n c] 33)) (RetIB (sizeE e 2000 1) (w.alloc (.cells #[.int .i64 e.form, .int .i64 e.sub, .int .i64 e.kind, .int .i64 e.n, .string e.name, .slice p n c] 33)))) := Lib.hid (by
    rw [← HE.out]
    exact size_any _ e (Nat.lt_succ_self _) _ _ _ _ (HK.out.ext HX.out) (by decide) (by decide) (by decide) (by decide))
  obtain ⟨t, ht⟩ : ∃ t, t = (sizeE e 2000 1).1 := ⟨_, rfl⟩
  have hr2 : sizeE e 2000 1 = (t, R) := by rw [ht, hR]; rfl
  rw [hr2] at HF
  clear hR hk hn ht hr2
  go_enter Try.func51, Try.ntmps51
  go_upto_region 1 with fail
  go_wp2_with (first | (go_at_call 68; refine HF.out.mono ?_; rintro e1 w2 ⟨rfl, H2⟩) | fail)
  rw [HQ.out]
  exact ⟨rfl, Lib.hid (HX.out.trans H2.out)⟩
end Go.Proofs.Ytmommjagndadjaa
namespace Go.Proofs.Ytmommjagndadjaa
open Go.RowKit Go.Maps
set_option linter.unusedSimpArgs false
set_option linter.unusedVariables false
set_option maxRecDepth 100000

/-! ### Variables and cells -/
def vCells : List CV → List Value → List Value
  | v :: l, q :: qs => [.string v.name, .int .i64 v.kind, q] ++ vCells l qs
  | _, _ => []
/-- Variables that a slice shows. -/
def VIn (w : World) (v : Value) (l : List CV) : Prop := ∃ qs : List Value, qs.length = l.length ∧ (∀ q ∈ qs, ∃ p n c, q = .slice p n c) ∧ SlC w v l.length (vCells l qs)
theorem vCells_at : ∀ {l : List CV} {qs : List Value} {i : Nat} {x : CV}, qs.length = l.length → l[i]? = some x → ∃ q ∈ qs, ∀ k u, ([.string x.name, .int .i64 x.kind, q] : List Value)[k]? = some u → (vCells l qs)[i * 3 + k]? = some u
  | [], _, _, _, _, h => by simp at h
  | y :: l, [], _, _, h, _ => by simp at h
  | y :: l, q :: qs, 0, x, hl, h => by
    simp at h
    subst h
    refine ⟨q, by simp, fun k u hu => ?_⟩
    rw [vCells, Nat.zero_mul, Nat.zero_add, List.getElem?_append_left]
    · exact hu
    · exact (List.getElem?_eq_some_iff.1 hu).1
  | y :: l, q :: qs, i + 1, x, hl, h => by
    obtain ⟨q', h1, h2⟩ := vCells_at (l := l) (qs := qs) (i := i) (x := x) (by simpa using hl) (by simpa using h)
    refine ⟨q', by simp [h1], fun k u hu => ?_⟩
    rw [vCells, List.getElem?_append_right (by simp; omega), show (i + 1) * 3 + k - List.length [Value.string y.name, Value.int .i64 y.kind, q] = i * 3 + k by simp; omega]
    exact h2 k u hu
theorem VIn.slice {w : World} {v : Value} {l : List CV} (h : VIn w v l) : ∃ p c, v = .slice p l.length c ∧ l.length ≤ c ∧ c ≤ maxLen := by
  obtain ⟨qs, -, -, a, c, e1, h2, h3, -⟩ := h
  exact ⟨a, c, e1, h2, h3⟩
theorem VIn.ext {w w' : World} {v : Value} {l : List CV} (h : VIn w v l) (hx : Ext w w') : VIn w' v l := by
  obtain ⟨qs, h1, h2, h3⟩ := h
  exact ⟨qs, h1, h2, h3.ext hx⟩
theorem VIn.at {w : World} {l : List CV} {p : Option Addr} {m c i : Nat} {x : CV} (h : VIn w (.slice p m c) l) (hs : l[i]? = some x) : ∃ b o pq nq cq, p = some ⟨b, o, none⟩ ∧ w.cell? ⟨b, o + i * 3, none⟩ = some (.string x.name) ∧ w.cell? ⟨b, o + i * 3 + 1, none⟩ = some (.int .i64 x.kind) ∧ w.cell? ⟨b, o + i * 3 + 2, none⟩ = some (.slice pq nq cq) ∧ b < w.heap.size := by
  obtain ⟨qs, h1, h2, a', c', e1, h3, h4, h5⟩ := h
  simp only [Value.slice.injEq] at e1
  obtain ⟨rfl, rfl, rfl⟩ := e1
  obtain ⟨q, hq, h6⟩ := vCells_at h1 hs
  obtain ⟨pq, nq, cq, rfl⟩ := h2 q hq
  obtain ⟨b, o, rfl, c0⟩ := h5 _ _ (h6 0 _ rfl)
  have hh : ∀ k u, ([.string x.name, .int .i64 x.kind, .slice pq nq cq] : List Value)[k]? = some u → w.cell? ⟨b, o + i * 3 + k, none⟩ = some u := fun k u hu => by
    obtain ⟨b', o', e2, h7⟩ := h5 _ _ (h6 k u hu)
    simp only [Option.some.injEq, Addr.mk.injEq] at e2
    obtain ⟨rfl, rfl, -⟩ := e2
    rw [Nat.add_assoc]
    exact h7
  exact ⟨b, o, pq, nq, cq, rfl, c0, hh 1 _ rfl, hh 2 _ rfl, World.block_lt_of_cell? w _ c0⟩
def cCells : List CL → List Value
  | [] => []
  | x :: l => [.string x.name, .int .i64 x.kind, .int .i64 x.init] ++ cCells l
theorem cCells_at : ∀ {l : List CL} {i : Nat} {x : CL}, l[i]? = some x → ∀ k u, ([.string x.name, .int .i64 x.kind, .int .i64 x.init] : List Value)[k]? = some u → (cCells l)[i * 3 + k]? = some u
  | [], _, _, h => by simp at h
  | y :: l, 0, x, h => by
    simp at h
    subst h
    intro k u hu
    rw [cCells, Nat.zero_mul, Nat.zero_add, List.getElem?_append_left]
    · exact hu
    · exact (List.getElem?_eq_some_iff.1 hu).1
  | y :: l, i + 1, x, h => by
    intro k u hu
    rw [cCells, List.getElem?_append_right (by simp; omega), show (i + 1) * 3 + k - List.length [Value.string y.name, Value.int .i64 y.kind, Value.int .i64 y.init] = i * 3 + k by simp; omega]
    exact cCells_at (l := l) (by simpa using h) k u hu
/-- Cells that a slice shows. -/
def CIn (w : World) (v : Value) (l : List CL) : Prop := SlC w v l.length (cCells l)
theorem CIn.ext {w w' : World} {v : Value} {l : List CL} (h : CIn w v l) (hx : Ext w w') : CIn w' v l := by
  unfold CIn at h ⊢
  exact h.ext hx
theorem CIn.slice {w : World} {v : Value} {l : List CL} (h : CIn w v l) : ∃ p c, v = .slice p l.length c ∧ l.length ≤ c ∧ c ≤ maxLen := by
  obtain ⟨a, c, e1, h2, h3, -⟩ := h
  exact ⟨a, c, e1, h2, h3⟩
theorem CIn.at {w : World} {l : List CL} {p : Option Addr} {m c i : Nat} {x : CL} (h : CIn w (.slice p m c) l) (hs : l[i]? = some x) : ∃ b o, p = some ⟨b, o, none⟩ ∧ w.cell? ⟨b, o + i * 3, none⟩ = some (.string x.name) ∧ w.cell? ⟨b, o + i * 3 + 1, none⟩ = some (.int .i64 x.kind) ∧ w.cell? ⟨b, o + i * 3 + 2, none⟩ = some (.int .i64 x.init) ∧ b < w.heap.size := by
  obtain ⟨a', c', e1, h3, h4, h5⟩ := h
  simp only [Value.slice.injEq] at e1
  obtain ⟨rfl, rfl, rfl⟩ := e1
  have h6 := cCells_at hs
  obtain ⟨b, o, rfl, c0⟩ := h5 _ _ (h6 0 _ rfl)
  have hh : ∀ k u, ([.string x.name, .int .i64 x.kind, .int .i64 x.init] : List Value)[k]? = some u → w.cell? ⟨b, o + i * 3 + k, none⟩ = some u := fun k u hu => by
    obtain ⟨b', o', e2, h7⟩ := h5 _ _ (h6 k u hu)
    simp only [Option.some.injEq, Addr.mk.injEq] at e2
    obtain ⟨rfl, rfl, -⟩ := e2
    rw [Nat.add_assoc]
    exact h7
  exact ⟨b, o, rfl, c0, hh 1 _ rfl, hh 2 _ rfl, World.block_lt_of_cell? w _ c0⟩
/-! ### Step code -/
/-- The five slices of step code. -/
structure S5 where
  iv : Value
  ov : Value
  vv : Value
  cv : Value
  bv : Value
structure SPIn (w : World) (s : SP) (x : S5) : Prop where
  ins : VIn w x.iv s.ins
  outs : VIn w x.ov s.outs
  vars : VIn w x.vv s.vars
  cells : CIn w x.cv s.cells
  body : BIn w x.bv s.body
structure okP (s : SP) : Prop where
  ins : ∀ v ∈ s.ins, v.name.size ≤ maxLen ∧ I64 v.kind
  outs : ∀ v ∈ s.outs, v.name.size ≤ maxLen ∧ I64 v.kind
  vars : ∀ v ∈ s.vars, v.name.size ≤ maxLen ∧ I64 v.kind
  cells : ∀ v ∈ s.cells, v.name.size ≤ maxLen ∧ I64 v.kind ∧ I64 v.init
  body : okL s.body
/-- The checker: its block, its names' map. -/
structure CK (W0 : World) (x : S5) (X M : Nat) (L : List (ByteArray × Value)) (c : Int) (w : World) : Prop where
  ext : Ext W0 w
  box : BoxV X [x.iv, x.ov, x.vv, x.cv, x.bv, .map (some M), .int .i64 c] w
  map : SM Try.prog 9 M L w
  nx : W0.heap.size ≤ X
  nm : W0.heap.size ≤ M
  ne : X ≠ M
section
variable {W0 w w' : World} {x : S5} {X M : Nat} {L : List (ByteArray × Value)} {c d : Int}
theorem CK.next (h : CK W0 x X M L c w) (hx : Ext w w') : CK W0 x X M L c w' :=
  { h with ext := h.ext.trans hx, box := h.box.ext hx, map := h.map.ext hx }
theorem CK.count (h : CK W0 x X M L c w) (d : Int) : CK W0 x X M L d (w.setCell ⟨X, 6, none⟩ (.int .i64 d)) :=
  { h with ext := (Kb.set (S := [X]) w X 6 (by simp) _).ext h.ext (by simpa using h.nx), box := (h.box.put 6 _).cast rfl, map := h.map.kb (Kb.set (S := [X]) w X 6 (by simp) _) (by simpa using h.ne.symm) }
end
end Go.Proofs.Ytmommjagndadjaa
namespace Go.Proofs.Ytmommjagndadjaa
open Go.RowKit
set_option linter.unusedSimpArgs false
set_option linter.unusedVariables false
set_option maxRecDepth 100000

/-! ### Clocks -/
def edCells : CK0 → List Value
  | [] => []
  | e :: l => [.string e.1, .bool e.2] ++ edCells l
theorem edCells_len : ∀ l : CK0, (edCells l).length = l.length * 2
  | [] => rfl
  | e :: l => by rw [edCells, List.length_append, edCells_len l]; simp; omega
theorem edCells_app : ∀ (l m : CK0), edCells (l ++ m) = edCells l ++ edCells m
  | [], m => rfl
  | e :: l, m => by rw [List.cons_append, edCells, edCells, edCells_app l m]; simp
theorem edCells_at : ∀ {l : CK0} {i : Nat} {x : ByteArray × Bool}, l[i]? = some x → ∀ k u, ([.string x.1, .bool x.2] : List Value)[k]? = some u → (edCells l)[i * 2 + k]? = some u
  | [], _, _, h => by simp at h
  | y :: l, 0, x, h => by
    simp at h
    subst h
    intro k u hu
    rw [edCells, Nat.zero_mul, Nat.zero_add, List.getElem?_append_left]
    · exact hu
    · exact (List.getElem?_eq_some_iff.1 hu).1
  | y :: l, i + 1, x, h => by
    intro k u hu
    rw [edCells, List.getElem?_append_right (by simp; omega), show (i + 1) * 2 + k - List.length [Value.string y.1, Value.bool y.2] = i * 2 + k by simp; omega]
    exact edCells_at (l := l) (by simpa using h) k u hu
/-- A clock that a slice shows. -/
def EdIn (w : World) (v : Value) (l : CK0) : Prop := SlC w v l.length (edCells l)
theorem EdIn.ext {w w' : World} {v : Value} {l : CK0} (h : EdIn w v l) (hx : Ext w w') : EdIn w' v l := by
  unfold EdIn at h ⊢
  exact h.ext hx
theorem EdIn.slice {w : World} {v : Value} {l : CK0} (h : EdIn w v l) : ∃ p c, v = .slice p l.length c ∧ l.length ≤ c ∧ c ≤ maxLen := by
  obtain ⟨a, c, e1, h2, h3, -⟩ := h
  exact ⟨a, c, e1, h2, h3⟩
theorem EdIn.nil (w : World) : EdIn w (.slice none 0 0) [] := ⟨none, 0, rfl, Nat.le_refl _, Nat.zero_le _, fun j u hu => by simp [edCells] at hu⟩
theorem EdIn.at {w : World} {l : CK0} {p : Option Addr} {m c i : Nat} {x : ByteArray × Bool} (h : EdIn w (.slice p m c) l) (hs : l[i]? = some x) : ∃ b o, p = some ⟨b, o, none⟩ ∧ w.cell? ⟨b, o + i * 2, none⟩ = some (.string x.1) ∧ w.cell? ⟨b, o + i * 2 + 1, none⟩ = some (.bool x.2) ∧ b < w.heap.size := by
  obtain ⟨a', c', e1, h3, h4, h5⟩ := h
  simp only [Value.slice.injEq] at e1
  obtain ⟨rfl, rfl, rfl⟩ := e1
  have h6 := edCells_at hs
  obtain ⟨b, o, rfl, c0⟩ := h5 _ _ (h6 0 _ rfl)
  obtain ⟨b', o', e2, h7⟩ := h5 _ _ (h6 1 _ rfl)
  simp only [Option.some.injEq, Addr.mk.injEq] at e2
  obtain ⟨rfl, rfl, -⟩ := e2
  exact ⟨b, o, rfl, c0, by rw [Nat.add_assoc]; exact h7, World.block_lt_of_cell? w _ c0⟩
/-! ### Variables -/
def vrCells : List VR → List Value → List Value
  | v :: l, q :: qs => [.string v.name, .int .i64 v.kind, q] ++ vrCells l qs
  | _, _ => []
theorem vrCells_len : ∀ (l : List VR) (qs : List Value), qs.length = l.length → (vrCells l qs).length = l.length * 3
  | [], _, _ => by simp [vrCells]
  | v :: l, [], h => by simp at h
  | v :: l, q :: qs, h => by
    rw [vrCells, List.length_append, vrCells_len l qs (by simpa using h)]; simp; omega
theorem vrCells_app : ∀ (l : List VR) (qs : List Value) (m : List VR) (rs : List Value), qs.length = l.length → vrCells (l ++ m) (qs ++ rs) = vrCells l qs ++ vrCells m rs
  | [], [], m, rs, _ => rfl
  | [], q :: qs, m, rs, h => by simp at h
  | v :: l, [], m, rs, h => by simp at h
  | v :: l, q :: qs, m, rs, h => by rw [List.cons_append, List.cons_append, vrCells, vrCells, vrCells_app l qs m rs (by simpa using h)]; simp
/-- Variables that a slice shows, their clocks' slices qs; the clocks lie in an earlier memory. -/
structure VsIn (W0 w : World) (v : Value) (l : List VR) (qs : List Value) : Prop where
  len : qs.length = l.length
  row : SlC w v l.length (vrCells l qs)
  clk : ∀ (i : Nat) (x : VR) (q : Value), l[i]? = some x → qs[i]? = some q → EdIn W0 q x.clk
def VRIn (w : World) (v : Value) (l : List VR) : Prop := ∃ qs, VsIn w w v l qs
theorem VsIn.ext {W0 w w' : World} {v : Value} {l : List VR} {qs : List Value} (h : VsIn W0 w v l qs) (hx : Ext w w') : VsIn W0 w' v l qs :=
  ⟨h.len, h.row.ext hx, h.clk⟩
theorem VsIn.base {W0 W1 w : World} {v : Value} {l : List VR} {qs : List Value} (h : VsIn W0 w v l qs) (hx : Ext W0 W1) : VsIn W1 w v l qs :=
  ⟨h.len, h.row, fun i x q h1 h2 => (h.clk i x q h1 h2).ext hx⟩
theorem VRIn.ext {w w' : World} {v : Value} {l : List VR} (h : VRIn w v l) (hx : Ext w w') : VRIn w' v l := by
  obtain ⟨qs, h⟩ := h
  exact ⟨qs, (h.ext hx).base hx⟩
theorem VsIn.slice {W0 w : World} {v : Value} {l : List VR} {qs : List Value} (h : VsIn W0 w v l qs) : ∃ p c, v = .slice p l.length c ∧ l.length ≤ c ∧ c ≤ maxLen := by
  obtain ⟨a, c, e1, h2, h3, -⟩ := h.row
  exact ⟨a, c, e1, h2, h3⟩
theorem VRIn.slice {w : World} {v : Value} {l : List VR} (h : VRIn w v l) : ∃ p c, v = .slice p l.length c ∧ l.length ≤ c ∧ c ≤ maxLen := by
  obtain ⟨qs, h⟩ := h
  exact h.slice
theorem clk_app {W0 : World} {l m : List VR} {qs rs : List Value} (hl : qs.length = l.length) (h1 : ∀ (i : Nat) (x : VR) (q : Value), l[i]? = some x → qs[i]? = some q → EdIn W0 q x.clk) (h2 : ∀ (i : Nat) (x : VR) (q : Value), m[i]? = some x → rs[i]? = some q → EdIn W0 q x.clk) :
    ∀ (i : Nat) (x : VR) (q : Value), (l ++ m)[i]? = some x → (qs ++ rs)[i]? = some q → EdIn W0 q x.clk := fun i x q e1 e2 => by
  by_cases hi : i < l.length
  · rw [List.getElem?_append_left hi] at e1
    rw [List.getElem?_append_left (by rw [hl]; exact hi)] at e2
    exact h1 i x q e1 e2
  · rw [List.getElem?_append_right (by omega)] at e1
    rw [List.getElem?_append_right (by rw [hl]; omega), hl] at e2
    exact h2 _ x q e1 e2
theorem VsIn.app {W0 w : World} {l m : List VR} {qs rs : List Value} {v v2 v3 : Value} (h : VsIn W0 w v l qs) (h2 : VsIn W0 w v2 m rs) {n : Nat} (hs : SlC w v3 n (vrCells l qs ++ vrCells m rs)) (hn : n = (l ++ m).length) : VsIn W0 w v3 (l ++ m) (qs ++ rs) := by
  refine ⟨by simp [h.len, h2.len], ?_, fun i x q e1 e2 => ?_⟩
  · rw [← hn, vrCells_app _ _ _ _ h.len]; exact hs
  · by_cases hi : i < l.length
    · rw [List.getElem?_append_left hi] at e1
      rw [List.getElem?_append_left (by rw [h.len]; exact hi)] at e2
      exact h.clk i x q e1 e2
    · rw [List.getElem?_append_right (by omega)] at e1
      rw [List.getElem?_append_right (by rw [h.len]; omega), h.len] at e2
      exact h2.clk _ x q e1 e2
theorem vrCells_at : ∀ {l : List VR} {qs : List Value} {i : Nat} {x : VR}, qs.length = l.length → l[i]? = some x → ∃ q, qs[i]? = some q ∧ ∀ k u, ([.string x.name, .int .i64 x.kind, q] : List Value)[k]? = some u → (vrCells l qs)[i * 3 + k]? = some u
  | [], _, _, _, _, h => by simp at h
  | y :: l, [], _, _, h, _ => by simp at h
  | y :: l, q :: qs, 0, x, hl, h => by
    simp at h
    subst h
    refine ⟨q, by simp, fun k u hu => ?_⟩
    rw [vrCells, Nat.zero_mul, Nat.zero_add, List.getElem?_append_left]
    · exact hu
    · exact (List.getElem?_eq_some_iff.1 hu).1
  | y :: l, q :: qs, i + 1, x, hl, h => by
    obtain ⟨q', h1, h2⟩ := vrCells_at (l := l) (qs := qs) (i := i) (x := x) (by simpa using hl) (by simpa using h)
    refine ⟨q', by simp [h1], fun k u hu => ?_⟩
    rw [vrCells, List.getElem?_append_right (by simp; omega), show (i + 1) * 3 + k - List.length [Value.string y.name, Value.int .i64 y.kind, q] = i * 3 + k by simp; omega]
    exact h2 k u hu
/-- A variable's three cells, its clock. -/
theorem VsIn.at {W0 w : World} {l : List VR} {qs : List Value} {p : Option Addr} {m c i : Nat} {x : VR} (h : VsIn W0 w (.slice p m c) l qs) (hs : l[i]? = some x) : ∃ b o pq cq, p = some ⟨b, o, none⟩ ∧ qs[i]? = some (.slice pq x.clk.length cq) ∧ w.cell? ⟨b, o + i * 3, none⟩ = some (.string x.name) ∧ w.cell? ⟨b, o + i * 3 + 1, none⟩ = some (.int .i64 x.kind) ∧ w.cell? ⟨b, o + i * 3 + 2, none⟩ = some (.slice pq x.clk.length cq) ∧ EdIn W0 (.slice pq x.clk.length cq) x.clk ∧ b < w.heap.size := by
  obtain ⟨a', c', e1, h3, h4, h5⟩ := h.row
  simp only [Value.slice.injEq] at e1
  obtain ⟨rfl, rfl, rfl⟩ := e1
  obtain ⟨q, hq, h6⟩ := vrCells_at h.len hs
  have hed := h.clk i x q hs hq
  obtain ⟨pq, cq, rfl, -, -⟩ := hed.slice
  obtain ⟨b, o, rfl, c0⟩ := h5 _ _ (h6 0 _ rfl)
  have hh : ∀ k u, ([.string x.name, .int .i64 x.kind, .slice pq x.clk.length cq] : List Value)[k]? = some u → w.cell? ⟨b, o + i * 3 + k, none⟩ = some u := fun k u hu => by
    obtain ⟨b', o', e2, h7⟩ := h5 _ _ (h6 k u hu)
    simp only [Option.some.injEq, Addr.mk.injEq] at e2
    obtain ⟨rfl, rfl, -⟩ := e2
    rw [Nat.add_assoc]
    exact h7
  exact ⟨b, o, pq, cq, rfl, hq, c0, hh 1 _ rfl, hh 2 _ rfl, hed, World.block_lt_of_cell? w _ c0⟩
/-! ### Equations -/
def qCell (q : EQ) (kv : Value) : List Value := [.int .i64 q.form, .string q.name] ++ eCell q.e kv ++ [.int .i64 q.init, .string q.next, .string q.reset, .int .i64 q.period, .int .i64 q.offset]
def qVal (q : EQ) (kv : Value) : Value := .agg #[.int .i64 q.form, .string q.name, .int .i64 q.e.form, .int .i64 q.e.sub, .int .i64 q.e.kind, .int .i64 q.e.n, .string q.e.name, kv, .int .i64 q.init, .string q.next, .string q.reset, .int .i64 q.period, .int .i64 q.offset]
def qCells : List EQ → List Value → List Value
  | q :: l, v :: vs => qCell q v ++ qCells l vs
  | _, _ => []
def QIn (w : World) (v : Value) (l : List EQ) : Prop := ∃ kvs : List Value, kvs.length = l.length ∧ (∀ (i : Nat) (q : EQ) (kv : Value), l[i]? = some q → kvs[i]? = some kv → KIn w q.e kv) ∧ SlC w v l.length (qCells l kvs)
theorem QIn.ext {w w' : World} {v : Value} {l : List EQ} (h : QIn w v l) (hx : Ext w w') : QIn w' v l := by
  obtain ⟨kvs, h1, h2, h3⟩ := h
  exact ⟨kvs, h1, fun i q kv e1 e2 => KIn.ext hx _ _ (h2 i q kv e1 e2), h3.ext hx⟩
theorem QIn.slice {w : World} {v : Value} {l : List EQ} (h : QIn w v l) : ∃ p c, v = .slice p l.length c ∧ l.length ≤ c ∧ c ≤ maxLen := by
  obtain ⟨kvs, -, -, a, c, e1, h2, h3, -⟩ := h
  exact ⟨a, c, e1, h2, h3⟩
theorem qCells_at : ∀ {l : List EQ} {kvs : List Value} {i : Nat} {x : EQ}, kvs.length = l.length → l[i]? = some x → ∃ q, kvs[i]? = some q ∧ ∀ k u, (qCell x q)[k]? = some u → (qCells l kvs)[i * 13 + k]? = some u
  | [], _, _, _, _, h => by simp at h
  | y :: l, [], _, _, h, _ => by simp at h
  | y :: l, q :: qs, 0, x, hl, h => by
    simp at h
    subst h
    refine ⟨q, by simp, fun k u hu => ?_⟩
    rw [qCells, Nat.zero_mul, Nat.zero_add, List.getElem?_append_left]
    · exact hu
    · exact (List.getElem?_eq_some_iff.1 hu).1
  | y :: l, q :: qs, i + 1, x, hl, h => by
    obtain ⟨q', h1, h2⟩ := qCells_at (l := l) (kvs := qs) (i := i) (x := x) (by simpa using hl) (by simpa using h)
    refine ⟨q', by simp [h1], fun k u hu => ?_⟩
    have hl : (qCell y q).length = 13 := rfl
    rw [qCells, List.getElem?_append_right (by rw [hl]; omega), hl, show (i + 1) * 13 + k - 13 = i * 13 + k by omega]
    exact h2 k u hu
/-- An equation's thirteen cells. -/
theorem QIn.at {w : World} {l : List EQ} {p : Option Addr} {m c i : Nat} {x : EQ} (h : QIn w (.slice p m c) l) (hs : l[i]? = some x) : ∃ b o pk ck, p = some ⟨b, o, none⟩ ∧ KIn w x.e (.slice pk x.e.kids.length ck) ∧ (∀ k u, (qCell x (.slice pk x.e.kids.length ck))[k]? = some u → w.cell? ⟨b, o + i * 13 + k, none⟩ = some u) ∧ b < w.heap.size := by
  obtain ⟨kvs, h1, h2, a', c', e1, h3, h4, h5⟩ := h
  simp only [Value.slice.injEq] at e1
  obtain ⟨rfl, rfl, rfl⟩ := e1
  obtain ⟨q, hq, h6⟩ := qCells_at h1 hs
  have hk := h2 i x q hs hq
  obtain ⟨pk, ck, rfl, -, -⟩ := hk.slice
  obtain ⟨b, o, rfl, c0⟩ := h5 _ _ (h6 0 _ rfl)
  refine ⟨b, o, pk, ck, rfl, hk, fun k u hu => ?_, World.block_lt_of_cell? w _ c0⟩
  obtain ⟨b', o', e2, h7⟩ := h5 _ _ (h6 k u hu)
  simp only [Option.some.injEq, Addr.mk.injEq] at e2
  obtain ⟨rfl, rfl, -⟩ := e2
  rw [Nat.add_assoc]
  exact h7
/-! ### A program -/
structure S4 where
  iv : Value
  ov : Value
  lv : Value
  ev : Value
structure CPIn (w : World) (c : CP) (x : S4) : Prop where
  ins : VRIn w x.iv c.ins
  outs : VRIn w x.ov c.outs
  locals : VRIn w x.lv c.locals
  eqs : QIn w x.ev c.eqs
theorem CPIn.ext {w w' : World} {c : CP} {x : S4} (h : CPIn w c x) (hx : Ext w w') : CPIn w' c x := ⟨h.ins.ext hx, h.outs.ext hx, h.locals.ext hx, h.eqs.ext hx⟩
abbrev coreA (x : S4) : Value := .agg #[x.iv, x.ov, x.lv, x.ev]
structure okV (v : VR) : Prop where
  name : v.name.size ≤ maxLen
  kind : I64 v.kind
  clk : ∀ e ∈ v.clk, e.1.size ≤ maxLen
structure okQ (q : EQ) : Prop where
  form : I64 q.form
  name : q.name.size ≤ maxLen
  e : okE q.e
  init : I64 q.init
  next : q.next.size ≤ maxLen
  reset : q.reset.size ≤ maxLen
  period : I64 q.period
  offset : I64 q.offset
structure okC (c : CP) : Prop where
  ins : ∀ v ∈ c.ins, okV v
  outs : ∀ v ∈ c.outs, okV v
  locals : ∀ v ∈ c.locals, okV v
  eqs : ∀ q ∈ c.eqs, okQ q
end Go.Proofs.Ytmommjagndadjaa
namespace Go.Proofs.Ytmommjagndadjaa
open Go.RowKit Go.Maps
set_option linter.unusedSimpArgs false
set_option linter.unusedVariables false
set_option maxRecDepth 100000

/-- Variables with their clocks' slices. -/
abbrev TQ := List (VR × Value)
def TQ.vt (t : TQ) : VT := t.map (·.1)
def tvL (t : TQ) : List (ByteArray × Value) := t.map fun e => (e.1.name, .agg #[.string e.1.name, .int .i64 e.1.kind, e.2])
def dtL (d : DT) : List (ByteArray × Value) := d.map fun e => (e.1, .int .i64 e.2)
def zV : Value := .agg #[.string ⟨#[]⟩, .int .i64 0, .slice none 0 0]
theorem find_dt (n : ByteArray) : ∀ d : DT, (findS (dtL d) n).getD (.int .i64 0) = .int .i64 (lookD d n)
  | [] => rfl
  | e :: d => by
    have ih := find_dt n d
    by_cases h : e.1 = n
    · subst h
      simp [findS, dtL, lookD]
    · have h1 : findS (dtL (e :: d)) n = findS (dtL d) n := findS_other h _ _
      rw [h1, ih]
      unfold lookD
      rw [List.find?_cons_of_neg (by simpa using h)]
theorem find_tv (n : ByteArray) : ∀ t : TQ, (findS (tvL t) n).isSome = thereT t.vt n ∧ ((∃ e ∈ t, lookT t.vt n = some e.1 ∧ findS (tvL t) n = some (.agg #[.string e.1.name, .int .i64 e.1.kind, e.2])) ∨ (lookT t.vt n = none ∧ findS (tvL t) n = none))
  | [] => ⟨rfl, .inr ⟨rfl, rfl⟩⟩
  | e :: t => by
    obtain ⟨h1, h2⟩ := find_tv n t
    by_cases h : e.1.name = n
    · have a1 : lookT (TQ.vt (e :: t)) n = some e.1 := by
        unfold lookT TQ.vt
        rw [List.map_cons, List.find?_cons_of_pos (by simpa using h)]
      have a2 : findS (tvL (e :: t)) n = some (.agg #[.string e.1.name, .int .i64 e.1.kind, e.2]) := by
        subst h
        exact findS_same _ _ _
      refine ⟨?_, .inl ⟨e, by simp, a1, a2⟩⟩
      rw [a2]
      unfold thereT
      rw [a1]
      rfl
    · have a1 : lookT (TQ.vt (e :: t)) n = lookT (TQ.vt t) n := by
        unfold lookT TQ.vt
        rw [List.map_cons, List.find?_cons_of_neg (by simpa using h)]
      have a2 : findS (tvL (e :: t)) n = findS (tvL t) n := findS_other h _ _
      unfold thereT at h1 ⊢
      rw [a1, a2]
      refine ⟨h1, ?_⟩
      rcases h2 with ⟨x, hx, b1, b2⟩ | h2
      · exact .inl ⟨x, by simp [hx], b1, b2⟩
      · exact .inr h2
/-- The checker: its block, its maps. -/
structure KC (W0 : World) (x : S4) (X M D : Nat) (t : TQ) (d : DT) (w : World) : Prop where
  ext : Ext W0 w
  box : BoxV X [x.iv, x.ov, x.lv, x.ev, .map (some M), .map (some D)] w
  vmap : SM Try.prog 9 M (tvL t) w
  dmap : SM Try.prog 9 D (dtL d) w
  tab : ∀ e ∈ t, EdIn W0 e.2 e.1.clk
  nx : W0.heap.size ≤ X
  nm : W0.heap.size ≤ M
  nd : W0.heap.size ≤ D
  xm : X ≠ M
  xd : X ≠ D
  md : M ≠ D
theorem czeroI (w : World) : (zeroValue 3).run Try.prog w = .ok (.int .i64 0) w := by kernel_rfl
theorem czeroV (w : World) : (zeroValue 30).run Try.prog w = .ok zV w := by kernel_rfl
section
variable {W0 w w' : World} {x : S4} {X M D : Nat} {t : TQ} {d : DT}
theorem KC.next (h : KC W0 x X M D t d w) (hx : Ext w w') : KC W0 x X M D t d w' :=
  { h with ext := h.ext.trans hx, box := h.box.ext hx, vmap := h.vmap.ext hx, dmap := h.dmap.ext hx }
theorem KC.there (h : KC W0 x X M D t d w) {n : ByteArray} (hn : n.size ≤ maxLen) : ∃ nm k p m c, (Instr.lookup 77 (.map (some M)) (.string n) true).run Try.prog w = .ok (.tuple #[.agg #[.string nm, .int .i64 k, .slice p m c], .bool (thereT t.vt n)]) w := by
  have h1 := h.vmap.look_ok Try.underlying9 Try.underlying77 (czeroV w) hn
  rw [(find_tv n t).1] at h1
  rcases (find_tv n t).2 with ⟨e, he, h2, h3⟩ | ⟨h2, h3⟩
  · obtain ⟨p, c, e1, -, -⟩ := (h.tab e he).slice
    rw [h3] at h1
    exact ⟨e.1.name, e.1.kind, p, _, c, by rw [← e1]; exact h1⟩
  · rw [h3] at h1
    exact ⟨_, _, none, 0, 0, h1⟩
theorem KC.thereA (h : KC W0 x X M D t d w) {n : ByteArray} (hn : n.size ≤ maxLen) : ∃ nm k p m c, ∀ w', Ext w w' → (Instr.lookup 77 (.map (some M)) (.string n) true).run Try.prog w' = .ok (.tuple #[.agg #[.string nm, .int .i64 k, .slice p m c], .bool (thereT t.vt n)]) w' := by
  have h1 := fun (w' : World) (hx : Ext w w') => (h.next hx).vmap.look_ok Try.underlying9 Try.underlying77 (czeroV w') hn
  rw [(find_tv n t).1] at h1
  rcases (find_tv n t).2 with ⟨e, he, h2, h3⟩ | ⟨h2, h3⟩
  · obtain ⟨p, c, e1, -, -⟩ := (h.tab e he).slice
    rw [h3] at h1
    exact ⟨e.1.name, e.1.kind, p, _, c, fun w' hx => by rw [← e1]; exact h1 w' hx⟩
  · rw [h3] at h1
    exact ⟨_, _, none, 0, 0, h1⟩
theorem KC.lookA (h : KC W0 x X M D t d w) {n : ByteArray} (hn : n.size ≤ maxLen) : ∃ nm p c, (∀ w', Ext w w' → (Instr.lookup 77 (.map (some M)) (.string n) false).run Try.prog w' = .ok (.agg #[.string nm, .int .i64 (kindT t.vt n), .slice p (clkT t.vt n).length c]) w') ∧ EdIn W0 (.slice p (clkT t.vt n).length c) (clkT t.vt n) := by
  have h1 := fun (w' : World) (hx : Ext w w') => (h.next hx).vmap.look Try.underlying9 Try.underlying77 (czeroV w') hn
  rcases (find_tv n t).2 with ⟨e, he, h2, h3⟩ | ⟨h2, h3⟩
  · rw [h3] at h1
    have hk : kindT t.vt n = e.1.kind := by unfold kindT; rw [h2]; rfl
    have hc : clkT t.vt n = e.1.clk := by unfold clkT; rw [h2]; rfl
    have hed := h.tab e he
    obtain ⟨p, c, e1, -, -⟩ := hed.slice
    rw [hk, hc]
    refine ⟨e.1.name, p, c, fun w' hx => ?_, by rw [← e1]; exact hed⟩
    rw [← e1]
    exact h1 w' hx
  · rw [h3] at h1
    have hk : kindT t.vt n = 0 := by unfold kindT; rw [h2]; rfl
    have hc : clkT t.vt n = [] := by unfold clkT; rw [h2]; rfl
    rw [hk, hc]
    exact ⟨_, none, 0, h1, EdIn.nil W0⟩
theorem KC.look (h : KC W0 x X M D t d w) {n : ByteArray} (hn : n.size ≤ maxLen) : ∃ nm p c, (Instr.lookup 77 (.map (some M)) (.string n) false).run Try.prog w = .ok (.agg #[.string nm, .int .i64 (kindT t.vt n), .slice p (clkT t.vt n).length c]) w ∧ EdIn W0 (.slice p (clkT t.vt n).length c) (clkT t.vt n) := by
  have h1 := h.vmap.look Try.underlying9 Try.underlying77 (czeroV w) hn
  rcases (find_tv n t).2 with ⟨e, he, h2, h3⟩ | ⟨h2, h3⟩
  · rw [h3] at h1
    have hk : kindT t.vt n = e.1.kind := by unfold kindT; rw [h2]; rfl
    have hc : clkT t.vt n = e.1.clk := by unfold clkT; rw [h2]; rfl
    have hed := h.tab e he
    obtain ⟨p, c, e1, -, -⟩ := hed.slice
    rw [hk, hc]
    refine ⟨e.1.name, p, c, ?_, by rw [← e1]; exact hed⟩
    rw [← e1]
    exact h1
  · rw [h3] at h1
    have hk : kindT t.vt n = 0 := by unfold kindT; rw [h2]; rfl
    have hc : clkT t.vt n = [] := by unfold clkT; rw [h2]; rfl
    rw [hk, hc]
    exact ⟨_, none, 0, h1, EdIn.nil W0⟩
theorem KC.lookD (h : KC W0 x X M D t d w) {n : ByteArray} (hn : n.size ≤ maxLen) : (Instr.lookup 68 (.map (some D)) (.string n) false).run Try.prog w = .ok (.int .i64 (Go.Proofs.Ytmommjagndadjaa.lookD d n)) w := by
  rw [← find_dt]
  exact h.dmap.look Try.underlying9 Try.underlying68 (czeroI w) hn
theorem KC.putV (h : KC W0 x X M D t d w) (v : VR) (q : Value) (hq : EdIn W0 q v.clk) (hn : v.name.size ≤ maxLen) (hl : t.length ≤ 100000) : ∃ w', (Instr.mapUpdate 77 (.map (some M)) (.string v.name) (.agg #[.string v.name, .int .i64 v.kind, q])).run Try.prog w = .ok () w' ∧ Kb [M] w w' ∧ KC W0 x X M D ((v, q) :: t) d w' := by
  obtain ⟨w', h1, h2, h3⟩ := h.vmap.put Try.underlying9 Try.underlying77 (by unfold tvL maxLen; simp; omega) hn (.agg #[.string v.name, .int .i64 v.kind, q])
  have hk : Kb [M] w w' := Kb.grown h3 (fun g hg => by simp at hg; simp [hg])
  refine ⟨w', h1, hk, { h with ext := hk.ext h.ext (by simpa using h.nm), box := h.box.kb hk (by simpa using h.xm), vmap := h2, dmap := h.dmap.kb hk (by simpa using h.md.symm), tab := fun e he => ?_ }⟩
  rcases List.mem_cons.1 he with e1 | e1
  · rw [e1]; exact hq
  · exact h.tab e e1
theorem KC.putD (h : KC W0 x X M D t d w) (n : ByteArray) (i : Int) (hn : n.size ≤ maxLen) (hl : d.length ≤ 100000) : ∃ w', (Instr.mapUpdate 68 (.map (some D)) (.string n) (.int .i64 i)).run Try.prog w = .ok () w' ∧ Kb [D] w w' ∧ KC W0 x X M D t ((n, i) :: d) w' := by
  obtain ⟨w', h1, h2, h3⟩ := h.dmap.put Try.underlying9 Try.underlying68 (by unfold dtL maxLen; simp; omega) hn (.int .i64 i)
  have hk : Kb [D] w w' := Kb.grown h3 (fun g hg => by simp at hg; simp [hg])
  exact ⟨w', h1, hk, { h with ext := hk.ext h.ext (by simpa using h.nd), box := h.box.kb hk (by simpa using h.xd), vmap := h.vmap.kb hk (by simpa using h.md), dmap := h2 }⟩
end
@[go_sem] theorem varField1 (a b c : Value) (w : World) : Sem.run Try.prog (Instr.field 30 (.agg #[a, b, c]) 1) w = .ok b w := by kernel_rfl
@[go_sem] theorem varField2 (a b c : Value) (w : World) : Sem.run Try.prog (Instr.field 30 (.agg #[a, b, c]) 2) w = .ok c w := by kernel_rfl
end Go.Proofs.Ytmommjagndadjaa
namespace Go.Proofs.Ytmommjagndadjaa
open Go.RowKit Go.Maps
set_option linter.unusedSimpArgs false
set_option linter.unusedVariables false
set_option maxRecDepth 100000

theorem infoVar : (Try.prog.info? 30).map (fun i => (i.zero, i.size, i.bytes)) = some (some zV, 3, 48) := by kernel_rfl
theorem vrCells_one : ∀ (l : List VR) (qs : List Value), (∀ q ∈ qs, q.oneCell' = true) → ∀ u ∈ vrCells l qs, u.oneCell' = true
  | [], qs, _, u, hu => by cases qs <;> simp [vrCells] at hu
  | v :: l, [], _, u, hu => by simp [vrCells] at hu
  | v :: l, q :: qs, h, u, hu => by
    rw [vrCells, List.mem_append] at hu
    rcases hu with hu | hu
    · simp only [List.mem_cons, List.not_mem_nil, or_false] at hu
      rcases hu with rfl | rfl | rfl
      · rfl
      · rfl
      · exact h _ (by simp)
    · exact vrCells_one l qs (fun q hq => h q (by simp [hq])) u hu
theorem VsIn.one {W0 w : World} {v : Value} {l : List VR} {qs : List Value} (h : VsIn W0 w v l qs) : ∀ u ∈ vrCells l qs, u.oneCell' = true := by
  refine vrCells_one l qs (fun q hq => ?_)
  obtain ⟨i, hi, rfl⟩ := List.getElem_of_mem hq
  have h1 : i < l.length := by rw [← h.len]; exact hi
  obtain ⟨p, c, e, -, -⟩ := (h.clk i l[i] qs[i] (List.getElem?_eq_getElem h1) (List.getElem?_eq_getElem hi)).slice
  rw [e]; rfl
theorem VsIn.cast {W0 w : World} {v v' : Value} {l l' : List VR} {qs : List Value} (h : VsIn W0 w v l qs) (e : v = v') (e2 : l = l') : VsIn W0 w v' l' qs := by subst e; subst e2; exact h
theorem VsIn.app2 {W0 w wl wm : World} {l m : List VR} {qs rs : List Value} {v v2 v3 : Value} {n k : Nat} (h : VsIn W0 wl v l qs) (h2 : VsIn W0 wm v2 m rs) (hs : SlC w v3 n ([] ++ vrCells l qs ++ vrCells m rs)) (hn : n = (l ++ m).length) (hk : k = (l ++ m).length) : VsIn W0 w v3 (l ++ m) (qs ++ rs) := by
  refine ⟨by simp [h.len, h2.len], ?_, clk_app h.len h.clk h2.clk⟩
  rw [← hn, vrCells_app _ _ _ _ h.len]; exact hs
def RetVs (W0 : World) (l : List VR) (w : World) (e : Ending) (w' : World) : Prop := ∃ p cap qs, e = .returned (.slice p l.length cap) ∧ Hid (VsIn W0 w' (.slice p l.length cap) l qs ∧ Ext w w' ∧ w'.ownsRow w.heap.size 30 3 (.slice p l.length cap) l.length (vrCells l qs))
set_option maxHeartbeats 8000000 in
theorem cvars_any (W0 : World) (c : CP) (x : S4) (w : World) (hc : CPIn W0 c x) (hx : Ext W0 w) (hl : c.ins.length ≤ 100000 ∧ c.outs.length ≤ 100000 ∧ c.locals.length ≤ 100000) :
    Calls Try.prog 29 #[coreA x] w (RetVs W0 c.vars w) := by
  obtain ⟨Q, hQ⟩ : ∃ Q, Q = RetVs W0 c.vars w := ⟨_, rfl⟩
  rw [← hQ]
  have HQ := Lib.hid hQ
  obtain ⟨iv, ov, lv, ev⟩ := x
  obtain ⟨qs1, h1⟩ := hc.ins
  obtain ⟨qs2, h2⟩ := hc.outs
  obtain ⟨qs3, h3⟩ := hc.locals
  obtain ⟨p1, c1, e1, hd1, hm1⟩ := h1.slice
  obtain ⟨p2, c2, e2, hd2, hm2⟩ := h2.slice
  obtain ⟨p3, c3, e3, hd3, hm3⟩ := h3.slice
  simp only at e1 e2 e3
  subst e1 e2 e3
  have H1 := Lib.hid (And.intro h1 (And.intro (h1.row.ext hx) h1.one))
  have H2 := Lib.hid (And.intro h2 (And.intro (h2.row.ext hx) h2.one))
  have H3 := Lib.hid (And.intro h3 (And.intro (h3.row.ext hx) h3.one))
  have L1 := vrCells_len c.ins qs1 h1.len
  have L2 := vrCells_len c.outs qs2 h2.len
  have L3 := vrCells_len c.locals qs3 h3.len
  obtain ⟨n1, hn1⟩ : ∃ n, n = c.ins.length := ⟨_, rfl⟩
  obtain ⟨n2, hn2⟩ : ∃ n, n = c.outs.length := ⟨_, rfl⟩
  obtain ⟨n3, hn3⟩ : ∃ n, n = c.locals.length := ⟨_, rfl⟩
  simp only [← hn1, ← hn2, ← hn3] at H1 H2 H3 hl hd1 hd2 hd3 L1 L2 L3 ⊢
  have HN := Lib.hid (And.intro hn1 (And.intro hn2 hn3))
  obtain ⟨k1, hk1⟩ : ∃ k, k = vrCells c.ins qs1 := ⟨_, rfl⟩
  obtain ⟨k2, hk2⟩ : ∃ k, k = vrCells c.outs qs2 := ⟨_, rfl⟩
  obtain ⟨k3, hk3⟩ : ∃ k, k = vrCells c.locals qs3 := ⟨_, rfl⟩
  have HK := Lib.hid (And.intro hk1 (And.intro hk2 hk3))
  rw [← hk1] at H1 L1
  rw [← hk2] at H2 L2
  rw [← hk3] at H3 L3
  have HL := Lib.hid (And.intro L1 (And.intro L2 L3))
  obtain ⟨hl1, hl2, hl3⟩ := hl
  clear hQ hc h1 h2 h3 hn1 hn2 hn3 hk1 hk2 hk3 L1 L2 L3 hm1 hm2 hm3 hx
  go_enter Try.func29, Try.ntmps29
  go_upto_region 1 with fail
  have hbx : BoxV w.heap.size [.slice p1 n1 c1, .slice p2 n2 c2, .slice p3 n3 c3, ev] (w.alloc (.cells #[.slice p1 n1 c1, .slice p2 n2 c2, .slice p3 n3 c3, ev] 26)) := BoxV.of_row (heap_alloc_last w _)
  have hxb : Ext w (w.alloc (.cells #[.slice p1 n1 c1, .slice p2 n2 c2, .slice p3 n3 c3, ev] 26)) := (Ext.refl w).alloc _
  generalize (w.alloc (.cells #[.slice p1 n1 c1, .slice p2 n2 c2, .slice p3 n3 c3, ev] 26)) = wb at hbx hxb ⊢
  have hwX : w.heap.size ≤ w.heap.size := Nat.le_refl _
  generalize hXw : w.heap.size = X at hbx hwX ⊢
  have d0 := hbx.cells 0 _ rfl
  have d1 := hbx.cells 1 _ rfl
  have d2 := hbx.cells 2 _ rfl
  have HXB := Lib.hid (And.intro hxb hXw)
  have xl := hbx.lt
  clear hbx hxb hXw hwX
  have hq0 : wb.cell? ⟨X, 0, none⟩ = some (.slice p1 n1 c1) ∧ wb.cell? ⟨X, 1, none⟩ = some (.slice p2 n2 c2) ∧ wb.cell? ⟨X, 2, none⟩ = some (.slice p3 n3 c3) := ⟨d0, d1, d2⟩
  have HQQ : Hid (∀ w', Ext wb w' → w'.cell? ⟨X, 0, none⟩ = some (.slice p1 n1 c1) ∧ w'.cell? ⟨X, 1, none⟩ = some (.slice p2 n2 c2) ∧ w'.cell? ⟨X, 2, none⟩ = some (.slice p3 n3 c3)) := Lib.hid (fun w' hx => ⟨hx.cell d0, hx.cell d1, hx.cell d2⟩)
  clear d0 d1 d2
  go_region_held3 (fun w' => w'.cell? ⟨X, 0, none⟩ = some (.slice p1 n1 c1) ∧ w'.cell? ⟨X, 1, none⟩ = some (.slice p2 n2 c2) ∧ w'.cell? ⟨X, 2, none⟩ = some (.slice p3 n3 c3))
    (first | (with_reducible exact hq3) | (with_reducible exact hq2) | (with_reducible exact hq1) | (with_reducible exact hq0) | exact HQQ.out _ ((Ext.refl wb).drew))
    (first
      | (refine step_append_slc _ rfl (.const (.slice none 0 0)) (.tmp 4) 23 rfl wb.heap.size 30 zV 3 48 Try.underlying23 infoVar rfl (by decide) (.slice none 0 0) 0 [] rfl (own_nil _ _ _ _) _ n1 k1 rfl ((H1.out.2.1.ext HXB.out.1).ext (Ext.refl wb).drew) HL.out.1 H1.out.2.2 (by unfold maxLen; omega) (by omega) (Nat.le_refl _) ?_; intro v1 w1 hown1 hg1 hat1; have hX1 : Ext wb w1 := ((Ext.refl wb).drew).trans (ext_grown_nil hg1); have hq1 := HQQ.out w1 hX1; clear hg1 hat1)
      | (refine step_append_slc _ rfl (.tmp 5) (.tmp 7) 23 rfl wb.heap.size 30 zV 3 48 Try.underlying23 infoVar rfl (by decide) v1 (0 + n1) ([] ++ k1) rfl hown1 _ n2 k2 rfl ((H2.out.2.1.ext HXB.out.1).ext hX1) HL.out.2.1 H2.out.2.2 (by unfold maxLen; omega) (by omega) hX1.size ?_; intro v2 w2 hown2 hg2 hat2; have hX2 : Ext wb w2 := (Kb.grown (S := v1.ownBlock.toList) hg2 (fun g hg => Option.mem_toList.2 hg)).ext hX1 (fun g hg => (hown1.lt g (Option.mem_toList.1 hg)).1); have hq2 := HQQ.out w2 hX2; clear hg2 hat2)
      | (refine step_append_slc _ rfl (.tmp 8) (.tmp 10) 23 rfl wb.heap.size 30 zV 3 48 Try.underlying23 infoVar rfl (by decide) v2 (0 + n1 + n2) ([] ++ k1 ++ k2) rfl hown2 _ n3 k3 rfl ((H3.out.2.1.ext HXB.out.1).ext hX2) HL.out.2.2 H3.out.2.2 (by unfold maxLen; omega) (by omega) hX2.size ?_; intro v3 w3 hown3 hg3 hat3; have hX3 : Ext wb w3 := (Kb.grown (S := v2.ownBlock.toList) hg3 (fun g hg => Option.mem_toList.2 hg)).ext hX2 (fun g hg => (hown2.lt g (Option.mem_toList.1 hg)).1); have hq3 := HQQ.out w3 hX3; have HO := Lib.hid (And.intro hown3 hX3); clear hg3 hat3))
  all_goals
    go_wp2
    rw [HQ.out]
    obtain ⟨a, cap, ev3, -, -, -⟩ := SlC.of_owns HO.out.1
    have hlen : 0 + n1 + n2 + n3 = c.vars.length := by
      obtain ⟨e1, e2, e3⟩ := HN.out
      unfold CP.vars
      simp only [List.length_append]
      omega
    have hcells : vrCells c.vars (qs1 ++ qs2 ++ qs3) = [] ++ k1 ++ k2 ++ k3 := by
      unfold CP.vars
      rw [vrCells_app _ _ _ _ (by simp [H1.out.1.len, H2.out.1.len]), vrCells_app _ _ _ _ H1.out.1.len, HK.out.1, HK.out.2.1, HK.out.2.2]
      rfl
    have hown := HO.out.1
    rw [ev3, hlen, ← hcells] at hown
    refine ⟨a, cap, qs1 ++ qs2 ++ qs3, by rw [ev3, hlen]; rfl, Lib.hid ⟨⟨?_, SlC.of_owns hown, ?_⟩, HXB.out.1.trans HO.out.2, ownsRow_base hown HXB.out.1.size⟩⟩
    · simp [CP.vars, H1.out.1.len, H2.out.1.len, H3.out.1.len]
    · exact clk_app (by simp [H1.out.1.len, H2.out.1.len]) (clk_app H1.out.1.len H1.out.1.clk H2.out.1.clk) H3.out.1.clk
end Go.Proofs.Ytmommjagndadjaa
namespace Go.Proofs.Ytmommjagndadjaa
open Go.RowKit
set_option linter.unusedSimpArgs false
set_option linter.unusedVariables false
set_option maxRecDepth 100000

/-- All blocks but those that B names stay; no old block comes to be named. -/
structure Kt (B : World → Nat → Prop) (w w' : World) : Prop where
  os : w'.os = w.os
  tape : w'.tape = w.tape
  output : w'.output = w.output
  size : w.heap.size ≤ w'.heap.size
  block : ∀ k, k < w.heap.size → ¬ B w k → w'.heap[k]? = w.heap[k]?
  old : ∀ k, k < w.heap.size → B w' k → B w k
section
variable {B : World → Nat → Prop} {w w' w2 W0 : World}
theorem Kt.refl (B : World → Nat → Prop) (w : World) : Kt B w w := ⟨rfl, rfl, rfl, Nat.le_refl _, fun _ _ _ => rfl, fun _ _ h => h⟩
theorem Kt.of_ext (h : Ext w w') (hb : ∀ k, B w' k → B w k) : Kt B w w' := ⟨h.os, h.tape, h.output, h.size, fun k hk _ => Below.block h k hk, fun k _ => hb k⟩
theorem Kt.trans (h : Kt B w w') (k : Kt B w' w2) : Kt B w w2 :=
  ⟨k.os.trans h.os, k.tape.trans h.tape, k.output.trans h.output, Nat.le_trans h.size k.size,
    fun i hi h1 => (k.block i (Nat.lt_of_lt_of_le hi h.size) (fun e => h1 (h.old i hi e))).trans (h.block i hi h1),
    fun i hi h1 => h.old i hi (k.old i (Nat.lt_of_lt_of_le hi h.size) h1)⟩
theorem Kt.ext (h : Kt B w w') (hx : Ext W0 w) (hB : ∀ k, B w k → W0.heap.size ≤ k) : Ext W0 w' :=
  Below.trans hx ⟨h.os, h.tape, h.output, h.size, fun k hk => h.block k (Nat.lt_of_lt_of_le hk hx.size) (fun e => absurd hk (Nat.not_lt.2 (hB k e)))⟩
theorem Kt.cell (h : Kt B w w') {b o : Nat} {u : Value} (hb : ¬ B w b) (hc : w.cell? ⟨b, o, none⟩ = some u) : w'.cell? ⟨b, o, none⟩ = some u := by
  have hl := World.block_lt_of_cell? w _ hc
  rw [← hc]; unfold World.cell?; simp only [h.block b hl hb]
theorem Kt.frozen (h : Kt B w w') {b o : Nat} (hl : b < w.heap.size) (hb : ¬ B w b) : w'.frozen? ⟨b, o, none⟩ = w.frozen? ⟨b, o, none⟩ := by
  unfold World.frozen?; simp only [h.block b hl hb]
theorem Kt.box (h : Kt B w w') {C : Nat} {vs : List Value} (hc : BoxV C vs w) (hb : ¬ B w C) : BoxV C vs w' :=
  ⟨fun j u hu => h.cell hb (hc.cells j u hu), fun j => (h.frozen hc.lt hb).trans (hc.fz j), Nat.lt_of_lt_of_le hc.lt h.size⟩
theorem Kt.heap (h : Kt B w w') {X : Nat} {o : Obj} (hX : ¬ B w X) (hw : w.heap[X]? = some o) : w'.heap[X]? = some o := by
  rw [h.block X (Array.getElem?_eq_some_iff.1 hw).1 hX]; exact hw
end
/-- The blocks of rows that lie in the block O. -/
def TbO (O : Nat) (w : World) (k : Nat) : Prop := k = O ∨ ∃ j v, w.cell? ⟨O, j, none⟩ = some v ∧ v.ownBlock = some k
/-- Rows of numbers, each in a block of its own, their slices in the block O. -/
structure RWs (w : World) (base O n : Nat) (vs : List Value) (ls : List (List Int)) : Prop where
  nv : vs.length = n
  nl : ls.length = n
  top : w.heap[O]? = some (.cells vs.toArray 36 (0, 0))
  lo : base ≤ O
  row : ∀ (j : Nat) (v : Value) (l : List Int), vs[j]? = some v → ls[j]? = some l → w.ownsRow base 3 1 v l.length (i64s l)
  off : ∀ (j : Nat) (v : Value) (b : Nat), vs[j]? = some v → v.ownBlock = some b → b ≠ O
  ap : ∀ (i j : Nat) (vi vj : Value) (b : Nat), i ≠ j → vs[i]? = some vi → vs[j]? = some vj → vi.ownBlock = some b → vj.ownBlock ≠ some b
section
variable {w w' w1 : World} {base O n : Nat} {vs : List Value} {ls : List (List Int)}
theorem RWs.lt (h : RWs w base O n vs ls) : O < w.heap.size := (Array.getElem?_eq_some_iff.1 h.top).1
theorem RWs.cell (h : RWs w base O n vs ls) (j : Nat) : w.cell? ⟨O, j, none⟩ = vs[j]? := by
  rw [cell_of_row w O j _ _ (0, 0) h.top]; simp
theorem RWs.has (h : RWs w base O n vs ls) {j : Nat} {v : Value} (hv : vs[j]? = some v) : ∃ l, ls[j]? = some l :=
  ⟨_, List.getElem?_eq_getElem (by have := (List.getElem?_eq_some_iff.1 hv).1; rw [h.nl, ← h.nv]; exact this)⟩
theorem RWs.tb (h : RWs w base O n vs ls) {k : Nat} (hk : TbO O w k) : base ≤ k ∧ k < w.heap.size := by
  rcases hk with rfl | ⟨j, v, h1, h2⟩
  · exact ⟨h.lo, h.lt⟩
  · rw [h.cell] at h1
    obtain ⟨l, hl⟩ := h.has h1
    exact (h.row j v l h1 hl).lt k h2
theorem RWs.same (h : RWs w base O n vs ls) (hx : Ext w w') {k : Nat} (hk : TbO O w' k) : TbO O w k := by
  rcases hk with rfl | ⟨j, v, h1, h2⟩
  · exact .inl rfl
  · exact .inr ⟨j, v, by rw [← hx.cells O j h.lt]; exact h1, h2⟩
theorem RWs.ext (h : RWs w base O n vs ls) (hx : Ext w w') : RWs w' base O n vs ls :=
  ⟨h.nv, h.nl, ext_block hx h.top, h.lo, fun j v l h1 h2 => ownsRow_ext (h.row j v l h1 h2) hx, h.off, h.ap⟩
theorem RWs.kb {S : List Nat} (h : RWs w base O n vs ls) (hk : Kb S w w') (hS : ∀ k ∈ S, ¬ TbO O w k) : RWs w' base O n vs ls := by
  refine ⟨h.nv, h.nl, hk.heap (fun e => hS O e (.inl rfl)) h.top, h.lo, fun j v l h1 h2 => hk.row (h.row j v l h1 h2) (fun g hg e => hS g hg (.inr ⟨j, v, by rw [h.cell]; exact h1, e⟩)), h.off, h.ap⟩
theorem RWs.kbTb {S : List Nat} (h : RWs w base O n vs ls) (hk : Kb S w w') (hS : ∀ k ∈ S, ¬ TbO O w k) {k : Nat} (hb : TbO O w' k) : TbO O w k := by
  rcases hb with rfl | ⟨j, v, h1, h2⟩
  · exact .inl rfl
  · have h3 := h.kb hk hS
    rw [h3.cell] at h1
    exact .inr ⟨j, v, by rw [h.cell]; exact h1, h2⟩
theorem RWs.rows (h : RWs w base O n vs ls) {c : Nat} (hc : n ≤ c) (hm : c ≤ maxLen) : RowsIn w (.slice (some ⟨O, 0, none⟩) n c) vs ls :=
  ⟨⟨some ⟨O, 0, none⟩, c, by rw [h.nl], by rw [h.nl]; exact hc, hm, fun j u hu => ⟨O, 0, rfl, by rw [Nat.zero_add, h.cell]; exact hu⟩⟩, by rw [h.nv, h.nl], fun j x r h1 h2 => SlC.of_owns (h.row j x r h1 h2)⟩
/-- One number more behind a row. -/
theorem RWs.put (h : RWs w base O n vs ls) {j : Nat} {v v' : Value} {l : List Int} {x : Int} (hv : vs[j]? = some v) (hl : ls[j]? = some l) (hk : Kb v.ownBlock.toList w w1)
    (ho : w1.ownsRow base 3 1 v' (l.length + 1) (i64s (l ++ [x]))) (hat : v'.ownBlock = v.ownBlock ∨ ∃ g, v'.ownBlock = some g ∧ w.heap.size ≤ g) :
    RWs (w1.setCell ⟨O, j, none⟩ v') base O n (vs.set j v') (ls.set j (l ++ [x])) ∧ Kt (TbO O) w (w1.setCell ⟨O, j, none⟩ v') := by
  have hO : O ∉ v.ownBlock.toList := fun e => h.off j v O hv (Option.mem_toList.1 e) rfl
  have h1 : w1.heap[O]? = some (.cells vs.toArray 36 (0, 0)) := hk.heap hO h.top
  have h2 : (w1.setCell ⟨O, j, none⟩ v').heap[O]? = some (.cells (vs.set j v').toArray 36 (0, 0)) := by
    have := heap_setCell_same w1 O j _ _ v' h1
    simpa using this
  have hnO : ∀ b, v'.ownBlock = some b → b ≠ O := fun b hb => by
    rcases hat with e | ⟨g, e, hg⟩
    · exact h.off j v b hv (e ▸ hb)
    · rw [e] at hb
      have := h.lt
      simp at hb
      omega
  have hks : Kb [O] w1 (w1.setCell ⟨O, j, none⟩ v') := Kb.set _ _ _ (by simp) _
  have hnew : ∀ (i : Nat) (u : Value) (b : Nat), i ≠ j → vs[i]? = some u → u.ownBlock = some b → v'.ownBlock ≠ some b := fun i u b hi hu hb e => by
    rcases hat with e1 | ⟨g, e1, hg⟩
    · exact h.ap i j u v b hi hu hv hb (e1 ▸ e)
    · obtain ⟨l', hl'⟩ := h.has hu
      have := ((h.row i u l' hu hl').lt b hb).2
      rw [e1] at e
      simp at e
      omega
  have hget : ∀ (i : Nat) (u : Value), (vs.set j v')[i]? = some u → (i = j ∧ u = v') ∨ (i ≠ j ∧ vs[i]? = some u) := fun i u hu => by
    by_cases e : i = j
    · subst e
      rw [List.getElem?_set_self (List.getElem?_eq_some_iff.1 hv).1] at hu
      exact .inl ⟨rfl, (Option.some.inj hu).symm⟩
    · rw [List.getElem?_set_ne (Ne.symm e)] at hu
      exact .inr ⟨e, hu⟩
  refine ⟨⟨by simp [h.nv], by simp [h.nl], h2, h.lo, fun i u m hu hm => ?_, fun i u b hu hb => ?_, fun a b va vb k hab ha hb hk1 => ?_⟩, ⟨hk.os, hk.tape, hk.output, by simpa using hk.size, fun k hk1 hn => ?_, fun k hk1 hb => ?_⟩⟩
  · rcases hget i u hu with ⟨rfl, rfl⟩ | ⟨hi, hu⟩
    · rw [List.getElem?_set_self (List.getElem?_eq_some_iff.1 hl).1] at hm
      obtain rfl := Option.some.inj hm
      refine hks.row (by simpa using ho) (fun g hg e => ?_)
      simp at hg
      exact hnO g e hg
    · rw [List.getElem?_set_ne (Ne.symm hi)] at hm
      refine hks.row (hk.row (h.row i u m hu hm) (fun g hg e => ?_)) (fun g hg e => ?_)
      · exact h.ap i j u v g hi hu hv e (Option.mem_toList.1 hg)
      · simp at hg
        exact h.off i u g hu e hg
  · rcases hget i u hu with ⟨rfl, rfl⟩ | ⟨hi, hu⟩
    · exact hnO b hb
    · exact h.off i u b hu hb
  · rcases hget a va ha with ⟨rfl, rfl⟩ | ⟨hi, ha2⟩
    · rcases hget b vb hb with ⟨rfl, rfl⟩ | ⟨hi2, hb2⟩
      · exact absurd rfl hab
      · intro e
        exact hnew b vb k hi2 hb2 e hk1
    · rcases hget b vb hb with ⟨rfl, rfl⟩ | ⟨hi2, hb2⟩
      · exact hnew a va k hi ha2 hk1
      · exact h.ap a b va vb k hab ha2 hb2 hk1
  · have h3 : k ≠ O := fun e => hn (.inl e)
    rw [hks.block k (Nat.lt_of_lt_of_le hk1 hk.size) (by simpa using h3)]
    refine hk.block k hk1 (fun e => hn (.inr ⟨j, v, by rw [h.cell]; exact hv, Option.mem_toList.1 e⟩))
  · rcases hb with rfl | ⟨i, u, h3, h4⟩
    · exact .inl rfl
    · have h5 : (vs.set j v')[i]? = some u := by
        rw [cell_of_row _ O i _ _ (0, 0) h2] at h3
        simpa using h3
      rcases hget i u h5 with ⟨rfl, rfl⟩ | ⟨hi, hu⟩
      · rcases hat with e1 | ⟨g, e1, hg⟩
        · exact .inr ⟨i, v, by rw [h.cell]; exact hv, e1 ▸ h4⟩
        · rw [e1] at h4
          simp at h4
          omega
      · exact .inr ⟨i, u, by rw [h.cell]; exact hu, h4⟩
end
theorem RWs.made {w : World} {n O base : Nat} (h : w.heap[O]? = some (.cells (madeCells #[.slice none 0 0] n) 36 (0, 0))) (hb : base ≤ O) : RWs w base O n (List.replicate n (.slice none 0 0)) (List.replicate n []) := by
  have e : madeCells #[Value.slice none 0 0] n = (List.replicate n (Value.slice none 0 0)).toArray := by
    rw [← toList_madeCells_one]
  refine ⟨by simp, by simp, by rw [← e]; exact h, hb, fun j v l h1 h2 => ?_, fun j v b h1 h2 => ?_, fun i j vi vj b _ h1 h2 h3 => ?_⟩
  · simp only [List.getElem?_replicate] at h1 h2
    split at h1
    · simp at h1
      rw [if_pos (by assumption)] at h2
      simp at h2
      subst h1 h2
      exact own_nil _ _ _ _
    · cases h1
  · simp only [List.getElem?_replicate] at h1
    split at h1
    · simp at h1
      subst h1
      simp [Value.ownBlock] at h2
    · cases h1
  · simp only [List.getElem?_replicate] at h1
    split at h1
    · simp at h1
      subst h1
      simp [Value.ownBlock] at h3
    · cases h1
theorem RWs.made_tb {w : World} {n O k : Nat} (h : w.heap[O]? = some (.cells (madeCells #[.slice none 0 0] n) 36 (0, 0))) (hk : TbO O w k) : k = O := by
  rcases hk with e | ⟨j, v, h1, h2⟩
  · exact e
  · rw [cell_of_row w O j _ _ (0, 0) h] at h1
    have h3 : (madeCells #[Value.slice none 0 0] n).toList[j]? = some v := by simpa using h1
    rw [toList_madeCells_one, List.getElem?_replicate] at h3
    split at h3
    · simp at h3
      subst h3
      simp [Value.ownBlock] at h2
    · cases h3
/-! ### Counting parts -/
mutual
def cntE : CE → Nat
  | .mk _ _ _ _ _ ks => 1 + cntL ks
def cntL : List CE → Nat
  | [] => 0
  | k :: ks => cntE k + cntL ks
end
theorem cntE_eq (e : CE) : cntE e = 1 + cntL e.kids := by cases e; rw [cntE]; rfl
theorem cntL_drop {l : List CE} {j : Nat} {x : CE} (h : l[j]? = some x) : cntL (l.drop j) = cntE x + cntL (l.drop (j + 1)) := by
  obtain ⟨h1, h2⟩ := List.getElem?_eq_some_iff.1 h
  rw [List.drop_eq_getElem_cons h1, h2, cntL]
end Go.Proofs.Ytmommjagndadjaa
namespace Go.Proofs.Ytmommjagndadjaa
open Go.RowKit
set_option linter.unusedSimpArgs false
set_option linter.unusedVariables false
set_option maxRecDepth 100000

theorem tru_64 (b : Bool) : I64 (tru b) := by cases b <;> simp [tru, I64]
theorem zero_64 : I64 0 := by unfold I64; omega
theorem unv_64 (op k a : Int) : I64 (unv op k a).1 := by
  unfold unv
  by_cases h1 : isk k a = false
  · rw [if_pos h1]; exact zero_64
  rw [if_neg h1]
  by_cases h2 : op = 1
  · rw [if_pos h2]
    by_cases h3 : k = 1
    · rw [if_pos h3]; exact wrap64_I64 _
    · rw [if_neg h3]
      have := wkr_I64 (k := k) (bitsI64 .xor (-1) a (by simp))
      exact this
  rw [if_neg h2]
  by_cases h3 : op = 2
  · rw [if_pos h3]
    by_cases h4 : k = 1
    · rw [if_pos h4]; exact zero_64
    · rw [if_neg h4]
      have := wkr_I64 (k := k) (wrap64_I64 (-a))
      exact this
  · rw [if_neg h3]; exact zero_64
theorem castv_64 {f t a : Int} (ha : I64 a) : I64 (castv f t a).1 := by
  unfold castv
  split
  · exact zero_64
  · split
    · exact tru_64 _
    · exact wkr_I64 ha
theorem binr_64 (n : Nat) {k a b : Int} (ha : I64 a) (hb : I64 b) : I64 (binr n k a b).1 := by
  unfold binr
  split
  all_goals dsimp only
  all_goals first
    | (with_reducible exact wkr_I64 (wrap64_I64 _))
    | (with_reducible exact wkr_I64 (divv_I64 ha hb))
    | (with_reducible exact wkr_I64 (modv_I64 ha))
    | (with_reducible exact wkr_I64 (bitsI64 _ _ _ (by simp)))
    | (with_reducible exact wkr_I64 (shlv_I64 _ _ _ _))
    | (with_reducible exact wkr_I64 (shrv_I64 ha))
    | (with_reducible exact tru_64 _)
    | (with_reducible exact zero_64)
theorem binv_64 (op : Int) {k a b : Int} (ha : I64 a) (hb : I64 b) : I64 (binv op k a b).1 := by
  unfold binv
  split
  · exact binr_64 _ ha hb
  · exact zero_64
theorem runK_get (ks vs : ENV) : ∀ (l : List CE) (i : Nat), (runK ks vs l)[i]? = (l[i]?).map (runE ks vs)
  | [], i => by rw [runK]; simp
  | x :: l, 0 => by rw [runK]; simp
  | x :: l, i + 1 => by rw [runK]; simpa using runK_get ks vs l i
theorem runE_eq (ks vs : ENV) (e : CE) : runE ks vs e = if e.form = 1 then (e.n, e.kind) else if e.form = 2 then (getV vs e.name, getV ks e.name) else runF e.form e.sub e.kind (runK ks vs e.kids) := by
  cases e with
  | mk f s k n nm l => rw [runE]; rfl
theorem okK.mem : ∀ {l : List CE} {e : CE}, okK l → e ∈ l → okE e
  | [], _, _, h => by cases h
  | x :: l, e, h, he => by
    unfold okK at h
    rcases List.mem_cons.1 he with h1 | h1
    · rw [h1]; exact h.1
    · exact okK.mem h.2 h1
theorem runE_64 {ks vs : ENV} (hv : ∀ n, I64 (getV vs n)) (e : CE) : okE e → I64 (runE ks vs e).1 := by
  induction e using CE.ind with
  | h f s k n nm l ih =>
    intro hok
    have hk : ∀ i, I64 ((runK ks vs l).getD i (0, 0)).1 := fun i => by
      unfold List.getD
      rw [runK_get]
      cases h : l[i]? with
      | none => exact zero_64
      | some x => exact ih x (List.mem_of_getElem? h) (hok.kids.mem (List.mem_of_getElem? h))
    rw [runE]
    by_cases h1 : f = 1
    · rw [if_pos h1]; exact hok.ints.2.2.2
    rw [if_neg h1]
    by_cases h2 : f = 2
    · rw [if_pos h2]; exact hv nm
    rw [if_neg h2]
    unfold runF
    by_cases h5 : f = 5
    · rw [if_pos h5]
      by_cases h6 : ((runK ks vs l).getD 0 (0, 0)).1 ≠ 0
      · rw [if_pos h6]; exact hk 1
      · rw [if_neg h6]; exact hk 2
    rw [if_neg h5]
    by_cases h3 : f = 3
    · rw [if_pos h3]; exact unv_64 _ _ _
    rw [if_neg h3]
    by_cases h11 : f = 11
    · rw [if_pos h11]; exact castv_64 (hk 0)
    · rw [if_neg h11]; exact binv_64 _ (hk 0) (hk 1)
end Go.Proofs.Ytmommjagndadjaa

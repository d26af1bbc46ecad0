/-
  Nets of gates, their formulas and models, in plain words.
  No condition.
-/
import Derived.Test.YtkjgghbdpmkmoaaKit
namespace Go.Proofs.Ytkjgghbdpmkmoaa
open Go.RowKit
set_option linter.unusedSimpArgs false
set_option linter.unusedVariables false
set_option maxRecDepth 100000

/-- A gate. -/
structure GateV where
  op : Int
  a : Int
  b : Int
/-- A gate stands where it is. -/
def gateOk (i : Nat) (q : GateV) : Bool :=
  if q.op = 1 ∨ q.op = 2 then decide (q.a = 0 ∧ q.b = 0) else if q.op = 3 then decide (0 ≤ q.a ∧ 0 ≤ q.b ∧ q.a < 2 * (i : Int) ∧ q.b < 2 * (i : Int)) else false
/-- All gates from place i on stand where they are. -/
def netOk : Nat → List GateV → Bool
  | _, [] => true
  | i, q :: l => gateOk i q && netOk (i + 1) l
def chkN (l : List GateV) : Int := if netOk 0 l then 0 else 40
theorem netOk_at : ∀ {l : List GateV} {i j : Nat} {q : GateV}, netOk i l = true → l[j]? = some q → gateOk (i + j) q = true
  | q' :: l, i, j, q, h, hq => by
    simp only [netOk, Bool.and_eq_true] at h
    match j with
    | 0 => simp at hq; subst hq; simpa using h.1
    | j + 1 => simp at hq; have := netOk_at (i := i + 1) h.2 hq; rwa [show i + (j + 1) = i + 1 + j by omega]
theorem netOk_append : ∀ {l m : List GateV} {i : Nat}, netOk i (l ++ m) = (netOk i l && netOk (i + l.length) m)
  | [], m, i => by simp [netOk]
  | q :: l, m, i => by
    simp only [List.cons_append, netOk, List.length_cons]
    rw [netOk_append (l := l) (m := m) (i := i + 1), Bool.and_assoc, show i + 1 + l.length = i + (l.length + 1) by omega]
theorem netOk_take {l : List GateV} {j : Nat} {q : GateV} (hq : l[j]? = some q) : netOk 0 (l.take (j + 1)) = (netOk 0 (l.take j) && gateOk j q) := by
  have hj := (List.getElem?_eq_some_iff.1 hq).1
  rw [List.take_add_one, hq, Option.toList_some, netOk_append, List.length_take, Nat.min_eq_left (by omega)]
  simp [netOk]
theorem netOk_false {l : List GateV} {j : Nat} {q : GateV} (hq : l[j]? = some q) (h : gateOk j q = false) : netOk 0 l = false := by
  cases h0 : netOk 0 l with
  | false => rfl
  | true => have := netOk_at h0 hq; rw [Nat.zero_add, h] at this; cases this

/-- The inputs among gates. -/
def insN (l : List GateV) : Nat := (l.filter fun q => q.op == 2).length
/-- A wire's value. -/
def wireV (v : List Bool) (w : Int) : Bool := (v.getD (w.toNat / 2) false) != (w.toNat % 2 == 1)
/-- Gates' values, one behind the other. -/
def evalN : List GateV → List Bool → List Bool → List Bool
  | [], v, _ => v
  | q :: l, v, ins => if q.op = 2 then evalN l (v ++ [ins.headD false]) ins.tail else if q.op = 3 then evalN l (v ++ [wireV v q.a && wireV v q.b]) ins else evalN l (v ++ [false]) ins
theorem evalN_len : ∀ (l : List GateV) (v ins : List Bool), (evalN l v ins).length = v.length + l.length
  | [], v, ins => rfl
  | q :: l, v, ins => by
    unfold evalN
    split
    · rw [evalN_len]; simp; omega
    · split
      · rw [evalN_len]; simp; omega
      · rw [evalN_len]; simp; omega
theorem evalN_old : ∀ (l : List GateV) (v ins : List Bool) (j : Nat), j < v.length → (evalN l v ins)[j]? = v[j]?
  | [], v, ins, j, hj => rfl
  | q :: l, v, ins, j, hj => by
    unfold evalN
    split
    · rw [evalN_old _ _ _ _ (by simp; omega), List.getElem?_append_left hj]
    · split
      · rw [evalN_old _ _ _ _ (by simp; omega), List.getElem?_append_left hj]
      · rw [evalN_old _ _ _ _ (by simp; omega), List.getElem?_append_left hj]
theorem wireV_old {v u : List Bool} {w : Int} (h : ∀ j, j < v.length → u[j]? = v[j]?) (hw : 0 ≤ w ∧ w < 2 * (v.length : Int)) : wireV u w = wireV v w := by
  unfold wireV
  have : w.toNat / 2 < v.length := by omega
  simp only [List.getD, h _ this]
/-- Each gate tells what it is to. -/
theorem evalN_at : ∀ (l : List GateV) (v ins : List Bool) (j : Nat) (q : GateV), netOk v.length l = true → l[j]? = some q →
    (q.op = 1 → (evalN l v ins)[v.length + j]? = some false) ∧ (q.op = 3 → (evalN l v ins)[v.length + j]? = some (wireV (evalN l v ins) q.a && wireV (evalN l v ins) q.b))
  | q' :: l, v, ins, 0, q, hn, hq => by
    simp only [List.getElem?_cons_zero, Option.some.injEq] at hq
    subst hq
    simp only [netOk, Bool.and_eq_true] at hn
    constructor
    · intro h1
      unfold evalN
      rw [if_neg (by omega), if_neg (by omega), evalN_old _ _ _ _ (by simp)]
      simp
    · intro h3
      have hg := hn.1
      unfold gateOk at hg
      rw [if_neg (by omega), if_pos h3] at hg
      simp only [decide_eq_true_eq] at hg
      have e : evalN (q' :: l) v ins = evalN l (v ++ [wireV v q'.a && wireV v q'.b]) ins := by
        conv => lhs; unfold evalN
        rw [if_neg (by omega), if_pos h3]
      rw [e]
      have ho : ∀ j, j < v.length → (evalN l (v ++ [wireV v q'.a && wireV v q'.b]) ins)[j]? = v[j]? := fun j hj => by
        rw [evalN_old _ _ _ _ (by simp; omega), List.getElem?_append_left hj]
      rw [wireV_old ho ⟨hg.1, hg.2.2.1⟩, wireV_old ho ⟨hg.2.1, hg.2.2.2⟩, evalN_old _ _ _ _ (by simp)]
      simp
  | q' :: l, v, ins, j + 1, q, hn, hq => by
    simp only [List.getElem?_cons_succ] at hq
    simp only [netOk, Bool.and_eq_true] at hn
    unfold evalN
    split
    · have := evalN_at l (v ++ [ins.headD false]) ins.tail j q (by simpa using hn.2) hq
      simpa [Nat.add_assoc, Nat.add_comm 1 j] using this
    · split
      · have := evalN_at l (v ++ [wireV v q'.a && wireV v q'.b]) ins j q (by simpa using hn.2) hq
        simpa [Nat.add_assoc, Nat.add_comm 1 j] using this
      · have := evalN_at l (v ++ [false]) ins j q (by simpa using hn.2) hq
        simpa [Nat.add_assoc, Nat.add_comm 1 j] using this

/-- How much there is in clauses. -/
def szF : List (List Int) → Nat
  | [] => 0
  | c :: l => c.length + 1 + szF l
theorem szF_append (l m : List (List Int)) : szF (l ++ m) = szF l + szF m := by
  induction l with
  | nil => simp [szF]
  | cons c l ih => simp only [List.cons_append, szF, ih]; omega
theorem szF_take {l : List (List Int)} {j : Nat} {c : List Int} (h : l[j]? = some c) : szF (l.take (j + 1)) = szF (l.take j) + (c.length + 1) := by
  rw [List.take_add_one, h, Option.toList_some, szF_append]
  simp [szF]
theorem szF_le (l : List (List Int)) (j : Nat) : szF (l.take j) ≤ szF l := by
  have := szF_append (l.take j) (l.drop j)
  rw [List.take_append_drop] at this
  omega
theorem szF_len (l : List (List Int)) : l.length ≤ szF l := by
  induction l with
  | nil => simp [szF]
  | cons c l ih => simp only [List.length_cons, szF]; omega
theorem szF_mem {l : List (List Int)} {c : List Int} (h : c ∈ l) : c.length + 1 ≤ szF l := by
  induction l with
  | nil => cases h
  | cons d l ih =>
    simp only [szF]
    rcases List.mem_cons.1 h with e | e
    · subst e; omega
    · have := ih e; omega
/-- Is a number a literal of one of so many variables? -/
def litOk (vars l : Int) : Bool := (l != 0) && decide (l ≤ vars) && decide (-vars ≤ l)
def clOk (vars : Int) (c : List Int) : Bool := c.all (litOk vars)
def frmOk (vars : Int) (l : List (List Int)) : Bool := l.all (clOk vars)
def chkF (vars : Int) (l : List (List Int)) : Int := if vars < 0 then 40 else if frmOk vars l then 0 else 40
/-- Does a literal hold? -/
def litV (m : List Bool) (l : Int) : Bool := if l < 0 then !(m.getD (-l).toNat false) else m.getD l.toNat false
def clV (m : List Bool) (c : List Int) : Bool := c.any (litV m)
def frmV (m : List Bool) (l : List (List Int)) : Bool := l.all (clV m)
def holdsF (vars : Int) (l : List (List Int)) (m : List Bool) : Bool := (chkF vars l == 0) && decide ((m.length : Int) = vars + 1) && frmV m l

/-- A wire's literal. -/
def litW (w : Int) : Int := if w.toNat % 2 = 1 then -((w.toNat / 2 : Nat) + 1 : Int) else ((w.toNat / 2 : Nat) : Int) + 1
/-- A gate's clauses. -/
def gateC (i : Nat) (q : GateV) : List (List Int) :=
  if q.op = 1 then [[-((i : Int) + 1)]] else if q.op = 3 then [[-((i : Int) + 1), litW q.a], [-((i : Int) + 1), litW q.b], [(i : Int) + 1, -litW q.a, -litW q.b]] else []
def clsN : Nat → List GateV → List (List Int)
  | _, [] => []
  | i, q :: l => gateC i q ++ clsN (i + 1) l
theorem clsN_append : ∀ (l m : List GateV) (i : Nat), clsN i (l ++ m) = clsN i l ++ clsN (i + l.length) m
  | [], m, i => by simp [clsN]
  | q :: l, m, i => by
    simp only [List.cons_append, clsN, List.length_cons]
    rw [clsN_append l m (i + 1), List.append_assoc, show i + 1 + l.length = i + (l.length + 1) by omega]
theorem clsN_take {l : List GateV} {j : Nat} {q : GateV} (hq : l[j]? = some q) : clsN 0 (l.take (j + 1)) = clsN 0 (l.take j) ++ gateC j q := by
  have hj := (List.getElem?_eq_some_iff.1 hq).1
  rw [List.take_add_one, hq, Option.toList_some, clsN_append, List.length_take, Nat.min_eq_left (by omega)]
  simp [clsN]
theorem mem_clsN : ∀ {l : List GateV} {i : Nat} {c : List Int}, c ∈ clsN i l ↔ ∃ j q, l[j]? = some q ∧ c ∈ gateC (i + j) q
  | [], i, c => by simp [clsN]
  | q :: l, i, c => by
    simp only [clsN, List.mem_append, mem_clsN]
    constructor
    · rintro (h | ⟨j, q', h1, h2⟩)
      · exact ⟨0, q, rfl, by simpa using h⟩
      · exact ⟨j + 1, q', by simpa using h1, by rwa [show i + (j + 1) = i + 1 + j by omega]⟩
    · rintro ⟨j, q', h1, h2⟩
      match j with
      | 0 => simp at h1; subst h1; exact .inl (by simpa using h2)
      | j + 1 => exact .inr ⟨j, q', by simpa using h1, by rwa [show i + 1 + j = i + (j + 1) by omega]⟩
def wireOk (n : Nat) (w : Int) : Bool := decide (0 ≤ w) && decide (w < 2 * (n : Int))
def ofN (l : List GateV) (wires : List Int) : List (List Int) := clsN 0 l ++ wires.map fun w => [litW w]
theorem gateC_sz (i : Nat) (q : GateV) : szF (gateC i q) ≤ 10 := by
  unfold gateC
  split
  · simp [szF]
  · split
    · simp [szF]
    · simp [szF]
theorem clsN_sz : ∀ (l : List GateV) (i : Nat), szF (clsN i l) ≤ 10 * l.length
  | [], i => by simp [clsN, szF]
  | q :: l, i => by
    simp only [clsN, szF_append, List.length_cons]
    have := gateC_sz i q
    have := clsN_sz l (i + 1)
    omega
theorem wires_sz (ws : List Int) : szF (ws.map fun w => [litW w]) = 2 * ws.length := by
  induction ws with
  | nil => rfl
  | cons w l ih => simp only [List.map_cons, szF, ih, List.length_cons, List.length_nil]; omega
theorem ofN_sz (l : List GateV) (ws : List Int) : szF (ofN l ws) ≤ 10 * l.length + 2 * ws.length := by
  unfold ofN
  rw [szF_append, wires_sz]
  have := clsN_sz l 0
  omega
theorem litW_ok {n : Nat} {w : Int} (h0 : 0 ≤ w) (h1 : w < 2 * (n : Int)) : litOk n (litW w) = true ∧ litOk n (-litW w) = true := by
  unfold litOk litW
  split <;> simp <;> omega
theorem gateC_ok {n i : Nat} {q : GateV} (hi : i < n) (h : gateOk i q = true) : frmOk n (gateC i q) = true := by
  unfold gateC
  unfold gateOk at h
  split
  · simp [frmOk, clOk, litOk]; omega
  · rename_i h1
    split
    · rename_i h3
      rw [if_neg (by omega), if_pos h3] at h
      simp only [decide_eq_true_eq] at h
      have ha := litW_ok (n := n) h.1 (by omega)
      have hb := litW_ok (n := n) h.2.1 (by omega)
      have hp : litOk n ((i : Int) + 1) = true := by simp [litOk]; omega
      have hm : litOk n (-((i : Int) + 1)) = true := by simp [litOk]; omega
      simp only [frmOk, clOk, List.all_cons, List.all_nil, ha.1, ha.2, hb.1, hb.2, hp, hm, Bool.and_true]
    · simp [frmOk]
theorem ofN_ok {l : List GateV} {ws : List Int} (h : netOk 0 l = true) (hw : ∀ w ∈ ws, wireOk l.length w = true) : chkF l.length (ofN l ws) = 0 := by
  unfold chkF
  rw [if_neg (by omega), if_pos]
  unfold frmOk ofN
  rw [List.all_append, Bool.and_eq_true]
  constructor
  · rw [List.all_eq_true]
    intro c hc
    obtain ⟨j, q, hq, hc⟩ := mem_clsN.1 hc
    have hj := (List.getElem?_eq_some_iff.1 hq).1
    have := gateC_ok (n := l.length) (i := 0 + j) (by omega) (netOk_at h hq)
    exact List.all_eq_true.1 this c hc
  · rw [List.all_eq_true]
    intro c hc
    obtain ⟨w, hw1, rfl⟩ := List.mem_map.1 hc
    have := hw w hw1
    unfold wireOk at this
    simp only [Bool.and_eq_true, decide_eq_true_eq] at this
    simp [clOk, (litW_ok this.1 this.2).1]

/-! What models of a net's formula are. -/
theorem litV_W {m : List Bool} {v : List Bool} {w : Int} (hm : m = false :: v) : litV m (litW w) = wireV v w := by
  subst hm
  unfold litV litW wireV
  by_cases h : w.toNat % 2 = 1
  · rw [if_pos h, if_pos (by omega), h]
    have e : (- -((w.toNat / 2 : Nat) + 1 : Int)).toNat = w.toNat / 2 + 1 := by omega
    rw [e]
    simp [List.getD]
  · rw [if_neg h, if_neg (by omega)]
    have e : (((w.toNat / 2 : Nat) : Int) + 1).toNat = w.toNat / 2 + 1 := by omega
    rw [e]
    have h2 : (w.toNat % 2 == 1) = false := by simpa using h
    rw [h2]
    simp [List.getD]
theorem litV_neg {m : List Bool} {l : Int} (h : l ≠ 0) : litV m (-l) = !litV m l := by
  unfold litV
  by_cases h1 : l < 0
  · rw [if_neg (by omega), if_pos h1]; simp
  · rw [if_pos (by omega), if_neg h1]; simp
theorem litW_ne (w : Int) : litW w ≠ 0 := by unfold litW; split <;> omega
theorem litV_up {v : List Bool} {i : Nat} : litV (false :: v) ((i : Int) + 1) = v.getD i false := by
  unfold litV
  rw [if_neg (by omega)]
  have e : ((i : Int) + 1).toNat = i + 1 := by omega
  rw [e]; simp [List.getD]
/-- A gate's clauses hold just where it tells what it is to. -/
theorem gateC_holds {v : List Bool} {i : Nat} {q : GateV} : frmV (false :: v) (gateC i q) = ((q.op != 1 || !(v.getD i false)) && (q.op != 3 || v.getD i false == (wireV v q.a && wireV v q.b))) := by
  have hn : litV (false :: v) (-((i : Int) + 1)) = !v.getD i false := by rw [litV_neg (by omega), litV_up]
  have ha : litV (false :: v) (litW q.a) = wireV v q.a := litV_W rfl
  have hb : litV (false :: v) (litW q.b) = wireV v q.b := litV_W rfl
  have hna : litV (false :: v) (-litW q.a) = !wireV v q.a := by rw [litV_neg (litW_ne _), ha]
  have hnb : litV (false :: v) (-litW q.b) = !wireV v q.b := by rw [litV_neg (litW_ne _), hb]
  unfold gateC
  by_cases h1 : q.op = 1
  · rw [if_pos h1, h1]
    simp [frmV, clV, hn]
  · rw [if_neg h1]
    by_cases h3 : q.op = 3
    · rw [if_pos h3, h3]
      simp only [frmV, clV, List.all_cons, List.all_nil, List.any_cons, List.any_nil, hn, ha, hb, hna, hnb, litV_up]
      cases v.getD i false <;> cases wireV v q.a <;> cases wireV v q.b <;> rfl
    · rw [if_neg h3]
      have e1 : (q.op != 1) = true := by simpa using h1
      have e3 : (q.op != 3) = true := by simpa using h3
      simp [frmV, e1, e3]
theorem clsN_holds {l : List GateV} {v : List Bool} : frmV (false :: v) (clsN 0 l) = true ↔ ∀ j q, l[j]? = some q → frmV (false :: v) (gateC j q) = true := by
  unfold frmV
  rw [List.all_eq_true]
  constructor
  · intro h j q hq
    rw [List.all_eq_true]
    exact fun c hc => h c (mem_clsN.2 ⟨j, q, hq, by simpa using hc⟩)
  · intro h c hc
    obtain ⟨j, q, hq, hc⟩ := mem_clsN.1 hc
    exact List.all_eq_true.1 (h j q hq) c (by simpa using hc)
/-- A net's own values make its formula hold just where its wires are 1. -/
theorem means_all {l : List GateV} {ins : List Bool} {ws : List Int} (h : netOk 0 l = true) (hw : ∀ w ∈ ws, wireOk l.length w = true) :
    holdsF l.length (ofN l ws) (false :: evalN l [] ins) = ws.all (wireV (evalN l [] ins)) := by
  unfold holdsF
  rw [ofN_ok h hw, List.length_cons, evalN_len]
  have e1 : decide (((([] : List Bool).length + l.length + 1 : Nat) : Int) = (l.length : Int) + 1) = true := by simp
  rw [e1]
  simp only [beq_self_eq_true, Bool.true_and]
  unfold ofN
  have h1 : frmV (false :: evalN l [] ins) (clsN 0 l) = true := clsN_holds.2 fun j q hq => by
    have hh := evalN_at l [] ins j q h hq
    simp only [List.length_nil, Nat.zero_add] at hh
    rw [gateC_holds, Bool.and_eq_true]
    constructor
    · by_cases e : q.op = 1
      · simp [e, List.getD, hh.1 e]
      · simp [e]
    · by_cases e : q.op = 3
      · rw [show (evalN l [] ins).getD j false = (wireV (evalN l [] ins) q.a && wireV (evalN l [] ins) q.b) by simp [List.getD, hh.2 e]]
        simp
      · simp [e]
  have h2 : frmV (false :: evalN l [] ins) (clsN 0 l ++ ws.map fun w => [litW w]) = frmV (false :: evalN l [] ins) (ws.map fun w => [litW w]) := by
    unfold frmV at h1 ⊢
    rw [List.all_append, h1, Bool.true_and]
  rw [h2]
  unfold frmV
  rw [List.all_map]
  congr 1
  funext w
  simp [clV, litV_W (m := false :: evalN l [] ins) rfl]
/-- Another value of a gate that is no input does not. -/
theorem means_turn {l : List GateV} {ins : List Bool} {ws : List Int} (h : netOk 0 l = true) {k : Nat} {q : GateV} (hq : l[k]? = some q) (h2 : q.op ≠ 2) :
    holdsF l.length (ofN l ws) ((false :: evalN l [] ins).set (k + 1) (!(evalN l [] ins).getD k false)) = false := by
  have hk := (List.getElem?_eq_some_iff.1 hq).1
  obtain ⟨u, hu⟩ : ∃ u, u = (evalN l [] ins).set k (!(evalN l [] ins).getD k false) := ⟨_, rfl⟩
  rw [List.set_cons_succ, ← hu]
  have hul : k < (evalN l [] ins).length := by rw [evalN_len]; simpa using hk
  have huk : u.getD k false = !(evalN l [] ins).getD k false := by rw [hu]; simp [List.getD, List.getElem?_set, hul]
  have hlow : ∀ w : Int, 0 ≤ w → w < 2 * (k : Int) → wireV u w = wireV (evalN l [] ins) w := fun w h0 h1 => by
    unfold wireV
    have : k ≠ w.toNat / 2 := by omega
    rw [hu]; simp only [List.getD, List.getElem?_set_ne this]
  have hg := netOk_at h hq
  rw [Nat.zero_add] at hg
  have hno : frmV (false :: u) (gateC k q) = false := by
    rw [gateC_holds, huk]
    have hh := evalN_at l [] ins k q h hq
    simp only [List.length_nil, Nat.zero_add] at hh
    unfold gateOk at hg
    by_cases e : q.op = 1
    · have : (evalN l [] ins).getD k false = false := by simp [List.getD, hh.1 e]
      rw [this, e]; simp
    · rw [if_neg (by omega)] at hg
      by_cases e3 : q.op = 3
      · rw [if_pos e3] at hg
        simp only [decide_eq_true_eq] at hg
        have : (evalN l [] ins).getD k false = (wireV (evalN l [] ins) q.a && wireV (evalN l [] ins) q.b) := by simp [List.getD, hh.2 e3]
        rw [hlow _ hg.1 hg.2.2.1, hlow _ hg.2.1 hg.2.2.2, this, e3]
        cases wireV (evalN l [] ins) q.a <;> cases wireV (evalN l [] ins) q.b <;> rfl
      · rw [if_neg e3] at hg; cases hg
  unfold holdsF
  have : frmV (false :: u) (ofN l ws) = false := by
    cases h0 : frmV (false :: u) (ofN l ws) with
    | false => rfl
    | true =>
      unfold ofN frmV at h0
      rw [List.all_append, Bool.and_eq_true] at h0
      have := clsN_holds.1 h0.1 k q hq
      rw [hno] at this; cases this
  rw [this, Bool.and_false]
end Go.Proofs.Ytkjgghbdpmkmoaa

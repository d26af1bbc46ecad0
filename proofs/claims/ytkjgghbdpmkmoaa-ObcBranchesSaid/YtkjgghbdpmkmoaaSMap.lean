/-
  A map keyed by strings, whatever its elements are.
  No condition.
-/
import Derived.Maps.OwnSet
import Derived.Maps.RangeWalk
import Derived.Test.YtkjgghbdpmkmoaaGen
namespace Go.Proofs.Ytkjgghbdpmkmoaa
open Go.RowKit Go.Maps Go.WideMaps
set_option linter.unusedSimpArgs false
set_option linter.unusedVariables false
set_option maxRecDepth 100000

/-- An element as it is. -/
def heldR (v : Value) : Option (DataW Value × List MemPlace) := some (.held v, [])
def nK (n : ByteArray) : Lit := .string n.data.toList
theorem nK_inj {a b : ByteArray} (h : nK a = nK b) : a = b := by
  unfold nK at h
  cases a with
  | mk x => cases b with
    | mk y =>
      simp only [Lit.string.injEq] at h
      rw [Array.toList_inj.1 h]
theorem nK_key (n : ByteArray) : WideAt.IsKeyLit (nK n) := by
  unfold nK
  first | exact trivial | (simp [WideAt.IsKeyLit]) | (constructor)
/-- What a list of pairs has at a name; what was put last stands first. -/
def findS (L : List (ByteArray × Value)) (n : ByteArray) : Option Value := (L.find? fun e => decide (e.1 = n)).map (·.2)
theorem findS_same (n : ByteArray) (v : Value) (L : List (ByteArray × Value)) : findS ((n, v) :: L) n = some v := by simp [findS]
theorem findS_other {n m : ByteArray} (h : m ≠ n) (v : Value) (L : List (ByteArray × Value)) : findS ((m, v) :: L) n = findS L n := by
  unfold findS
  rw [List.find?_cons_of_neg (by simpa using h)]
def MapIs (D : DataW Value) (L : List (ByteArray × Value)) : Prop :=
  IsMap D ∧ ∀ n, n.size ≤ maxLen → Maps.has D (nK n) = (findS L n).isSome ∧ ∀ z, D.atKey (nK n) z = ((findS L n).map DataW.held).getD z
theorem MapIs.nil : MapIs (.map []) [] := ⟨isMap_empty, fun n _ => ⟨rfl, fun z => rfl⟩⟩
theorem MapIs.put {D : DataW Value} {L : List (ByteArray × Value)} (h : MapIs D L) (m : ByteArray) (v : Value) : MapIs (D.put (nK m) (.held v)) ((m, v) :: L) := by
  refine ⟨h.1.put _ _, fun n hn => ?_⟩
  by_cases e : m = n
  · subst e
    rw [findS_same]
    exact ⟨has_put_same h.1 (nK_key m) _, fun z => atKey_put_same h.1 (nK_key m) _ _⟩
  · have hne : nK n ≠ nK m := fun e2 => e (nK_inj e2).symm
    rw [has_put_other hne, findS_other e]
    exact ⟨(h.2 n hn).1, fun z => by rw [atKey_put_other hne]; exact (h.2 n hn).2 z⟩
/-- A block that is a map that reads as a list. -/
structure SM (P : Program) (k : TypeId) (b : Nat) (L : List (ByteArray × Value)) (w : World) : Prop where
  is : ∃ D c, c ≤ L.length ∧ w.ownsMap P k heldR b c D ∧ MapIs D L
section
variable {P : Program} {k e t : TypeId} {b : Nat} {L : List (ByteArray × Value)} {w w' : World}
theorem SM.lt (h : SM P k b L w) : b < w.heap.size := by
  obtain ⟨D, c, h1, h2, h3⟩ := h.is
  exact h2.lt
theorem ownsMap_same {R : Value → Option (DataW Value × List MemPlace)} {D : DataW Value} {c : Nat} (h : w.ownsMap P k R b c D) (hx : w'.heap[b]? = w.heap[b]?) : w'.ownsMap P k R b c D := by
  obtain ⟨es, clock, h1, h2, h3, h4⟩ := h
  exact ⟨es, clock, by rw [hx]; exact h1, h2, h3, h4⟩
theorem SM.at (h : SM P k b L w) (hb : w'.heap[b]? = w.heap[b]?) : SM P k b L w' := by
  obtain ⟨D, c, h1, h2, h3⟩ := h.is
  exact ⟨D, c, h1, ownsMap_same h2 hb, h3⟩
theorem SM.ext (h : SM P k b L w) (hx : Ext w w') : SM P k b L w' := h.at (Below.block hx b h.lt)
theorem SM.kb {S : List Nat} (h : SM P k b L w) (hk : Kb S w w') (hS : b ∉ S) : SM P k b L w' := h.at (hk.block b h.lt hS)
theorem SM.made (P : Program) (k : TypeId) (w : World) : SM P k w.heap.size [] (w.alloc (.map #[] 0)) :=
  ⟨_, 0, Nat.le_refl _, World.ownsMap_made w P k heldR, MapIs.nil⟩
theorem heldR_eq {v : Value} {d : DataW Value} {ps : List MemPlace} (h : heldR v = some (d, ps)) : d = .held v := by
  unfold heldR at h
  exact ((Prod.mk.inj (Option.some.inj h)).1).symm
theorem SM.look (h : SM P k b L w) (hk : P.underlying k = some .string) (ht : P.underlying t = some (.map k e)) {z : Value} (hz : (zeroValue e).run P w = .ok z w) {n : ByteArray} (hn : n.size ≤ maxLen) :
    (Instr.lookup t (.map (some b)) (.string n) false).run P w = .ok ((findS L n).getD z) w := by
  obtain ⟨D, c, h1, h2, h3⟩ := h.is
  obtain ⟨v, ps, hrun, hv⟩ := h2.lookup (string_keyed hk) ht hz (zd := .held z) (zp := []) rfl (keyOf_string_mk hk hn)
  have := heldR_eq hv
  have h4 := (h3.2 n hn).2 (.held z)
  rw [show (nK n) = Lit.string n.data.toList from rfl, this] at h4
  have : v = (findS L n).getD z := by
    cases h5 : findS L n with
    | none => rw [h5] at h4; simp at h4; exact h4
    | some u => rw [h5] at h4; simp at h4; exact h4
  rw [← this]; exact hrun
theorem SM.look_ok (h : SM P k b L w) (hk : P.underlying k = some .string) (ht : P.underlying t = some (.map k e)) {z : Value} (hz : (zeroValue e).run P w = .ok z w) {n : ByteArray} (hn : n.size ≤ maxLen) :
    (Instr.lookup t (.map (some b)) (.string n) true).run P w = .ok (.tuple #[(findS L n).getD z, .bool (findS L n).isSome]) w := by
  obtain ⟨D, c, h1, h2, h3⟩ := h.is
  obtain ⟨v, ps, hrun, hv⟩ := h2.look_ok (string_keyed hk) ht hz (zd := .held z) (zp := []) rfl (keyOf_string_mk hk hn)
  have := heldR_eq hv
  have h4 := (h3.2 n hn).2 (.held z)
  have h6 := (h3.2 n hn).1
  rw [show (nK n) = Lit.string n.data.toList from rfl, this] at h4
  rw [show (nK n) = Lit.string n.data.toList from rfl] at h6
  have : v = (findS L n).getD z := by
    cases h5 : findS L n with
    | none => rw [h5] at h4; simp at h4; exact h4
    | some u => rw [h5] at h4; simp at h4; exact h4
  rw [← this, ← h6]; exact hrun
theorem SM.put (h : SM P k b L w) (hk : P.underlying k = some .string) (ht : P.underlying t = some (.map k e)) (hl : L.length < maxLen) {n : ByteArray} (hn : n.size ≤ maxLen) (v : Value) :
    ∃ w', (Instr.mapUpdate t (.map (some b)) (.string n) v).run P w = .ok () w' ∧ SM P k b ((n, v) :: L) w' ∧ w.grownBy w' (some b) := by
  obtain ⟨D, c, h1, h2, h3⟩ := h.is
  obtain ⟨w', hrun, hm, hg⟩ := h2.update (string_keyed hk) ht (by omega) (keyOf_string_mk hk hn) (val := v) (d := .held v) (ps := []) rfl
  exact ⟨w', hrun, ⟨_, c + 1, by simp; omega, hm, h3.put n v⟩, hg⟩
theorem keyOf_string_inv {key : Value} {kl : Lit} (hk : P.underlying k = some .string) (h : keyOf P k key = some kl) : ∃ n : ByteArray, key = .string n ∧ kl = nK n ∧ n.size ≤ maxLen := by
  rw [keyOf_string hk] at h
  unfold mapKey at h
  rw [hk] at h
  cases key <;> simp at h
  exact ⟨_, rfl, h.2.symm, h.1⟩
/-- 'for .. range m' under way. -/
structure RG (P : Program) (k : TypeId) (b r : Nat) (L : List (ByteArray × Value)) (left : Lit → Bool) (cnt : Nat) (w : World) : Prop where
  is : ∃ D c, c ≤ L.length ∧ w.ranges P k heldR b r c D left cnt ∧ MapIs D L
theorem RG.kb {r : Nat} {left : Lit → Bool} {cnt : Nat} (h : RG P k b r L left cnt w) (hb : w'.heap[b]? = w.heap[b]?) (hr : w'.heap[r]? = w.heap[r]?) : RG P k b r L left cnt w' := by
  obtain ⟨D, c, h1, ⟨es, clock, since, seen, c0, h2, h3, h4, h5, h6, h7⟩, h8⟩ := h.is
  exact ⟨D, c, h1, ⟨es, clock, since, seen, c0, by rw [hb]; exact h2, h3, h4, h5, by rw [hr]; exact h6, h7⟩, h8⟩
theorem RG.lt {r : Nat} {left : Lit → Bool} {cnt : Nat} (h : RG P k b r L left cnt w) : r < w.heap.size ∧ b < w.heap.size := by
  obtain ⟨D, c, h1, h2, h3⟩ := h.is
  exact ⟨h2.lt, h2.owns.lt⟩
theorem RG.ext {r : Nat} {left : Lit → Bool} {cnt : Nat} (h : RG P k b r L left cnt w) (hx : Ext w w') : RG P k b r L left cnt w' :=
  h.kb (Below.block hx b h.lt.2) (Below.block hx r h.lt.1)
theorem RG.left_eq {r : Nat} {left : Lit → Bool} {cnt : Nat} (h : RG P k b r L left cnt w) : w.rangeLeft b r = cnt := by
  obtain ⟨D, c, h1, h2, h3⟩ := h.is
  exact h2.left_eq
variable {ops : Array Oper} {rest : List Oper} {o : Oper} {a : Act} {Q : Exit → Act → World → Prop}
theorem wpList_range_sm (w : World) (hg : o.guard = none) (m : Operand) (t : TypeId) (hop : o.op = Op.range t m) (k e : TypeId) (hk : P.underlying k = some .string) (ht : P.underlying t = some (.map k e)) (b : Nat) (L : List (ByteArray × Value))
    (hm : a.eval m = .map (some b)) (hown : SM P k b L w)
    (hK : ∀ w' left cnt, RG P k b w.heap.size L left cnt w' → (∀ n, n.size ≤ maxLen → left (nK n) = (findS L n).isSome) → Ext w w' → wpList P ops Q rest (a.put o.dst (.pointer (some ⟨w.heap.size, 0, none⟩))) w') :
    wpList P ops Q (o :: rest) a w := by
  obtain ⟨D, c, h1, h2, h3⟩ := hown.is
  refine wpList_range_own w hg m t hop k e (string_keyed hk) ht heldR b c D hm h2 fun w' hr hg hs => ?_
  exact hK w' _ _ ⟨D, c, h1, hr, h3⟩ (fun n hn => (h3.2 n hn).1) ⟨hg.os, hg.tape, hg.output, hg.size, fun j hj => hg.block j hj (by simp)⟩
theorem wpList_next_sm (w : World) (hg : o.guard = none) (it : Operand) (hop : o.op = Op.next it false) (k : TypeId) (hk : P.underlying k = some .string) (b r : Nat) (L : List (ByteArray × Value)) (left : Lit → Bool) (cnt : Nat)
    (hit : a.eval it = .pointer (some ⟨r, 0, none⟩)) (h : RG P k b r L left cnt w)
    (hDone : (∀ kl, left kl = false) → wpList P ops Q rest (a.put o.dst (.tuple #[.bool false])) w)
    (hMore : ∀ (n : ByteArray) (v : Value) (w' : World) (cnt' : Nat), n.size ≤ maxLen → left (nK n) = true → findS L n = some v → RG P k b r L (fun z => left z && !z.sameKey (nK n)) cnt' w' → cnt' < cnt → Kb [r] w w' →
      (Instr.entry (.pointer (some ⟨r, 0, none⟩))).run P w' = .ok (.tuple #[.string n, v]) w' → wpList P ops Q rest (a.put o.dst (.tuple #[.bool true, .string n, v])) w') :
    wpList P ops Q (o :: rest) a w := by
  obtain ⟨D, c, h1, h2, h3⟩ := h.is
  refine wpList_next_ranges w hg it hop k (string_keyed hk) heldR Value.string (fun v : Value => v) (fun key kl hkey => by obtain ⟨n, e, _⟩ := keyOf_string_inv hk hkey; exact ⟨n, e⟩) (fun v y _ => ⟨v, rfl⟩) b r c D left cnt hit h2 (fun _ hl => hDone hl) fun x v kl y w' cnt' hkey hl hv hat hr hlt hgr hs hen => ?_
  obtain ⟨n, e1, rfl, hn⟩ := keyOf_string_inv hk hkey
  cases e1
  have hy : y.1 = .held v := by
    unfold heldR at hv
    exact (congrArg Prod.fst (Option.some.inj hv)).symm
  have hf : findS L x = some v := by
    have h5 := (h3.2 x hn).2 (.nil)
    rw [hat, hy] at h5
    cases h6 : findS L x with
    | none => rw [h6] at h5; simp at h5
    | some u => rw [h6] at h5; simp at h5; rw [h5]
  exact hMore x v w' cnt' hn hl hf ⟨D, c, h1, hr, h3⟩ hlt (Kb.grown hgr (fun g hg => by simp at hg; simp [hg])) hen
end
end Go.Proofs.Ytkjgghbdpmkmoaa

/-
  A map keyed by strings: an entry is taken, then stored to.
  No condition.
  A run of step code: plain; what its walk keeps.
  No condition.
  The walk: a run of step code.
  Condition: the step code and the rows lie in memory.
  The walk: how long step code is.
  Condition: the step code lies in memory.
  Rows compared: the walk.
  Conditions: the rows lie in memory.
-/
import Derived.Test.YtkjgghbdpmkmoaaSMap
import Derived.WideKeyEntry
import Derived.Test.YtkjgghbdpmkmoaaObWk
import Derived.Test.YtkjgghbdpmkmoaaObWl
import Derived.Test.YtkjgghbdpmkmoaaObWf
import Derived.Test.YtkjgghbdpmkmoaaObW7
import Derived.Test.YtkjgghbdpmkmoaaObCk
import Derived.Test.YtkjgghbdpmkmoaaRowsG
namespace Go.Proofs.Ytkjgghbdpmkmoaa
open Go.RowKit Go.Maps Go.WideMaps Go.WideElems Go.ChangeMaps
set_option linter.unusedSimpArgs false
set_option linter.unusedVariables false
set_option maxRecDepth 100000

theorem kb_setBlock {w : World} {b : Nat} {o o' : Obj} (hb : w.heap[b]? = some o) : Kb [b] w (setBlock w b o') :=
  ⟨rfl, rfl, rfl, by simp [setBlock], fun i hi hne => by
    have : i ≠ b := fun e => hne (by rw [e]; simp)
    unfold setBlock
    simp [Array.getElem?_setIfInBounds, Ne.symm this]⟩
theorem setBlock_at {w : World} {b : Nat} {o o' : Obj} (hb : w.heap[b]? = some o) : (setBlock w b o').heap[b]? = some o' := by
  have h := (Array.getElem?_eq_some_iff.1 hb).1
  unfold setBlock
  simp [Array.getElem?_setIfInBounds, h]
theorem SM.entry {P : Program} {k e t : TypeId} {b : Nat} {L : List (ByteArray × Value)} {w : World} (h : SM P k b L w) (hk : P.underlying k = some .string) (ht : P.underlying t = some (.map k e)) {z : Value} (hz : ∀ u : World, (zeroValue e).run P u = .ok z u) (hl : L.length < maxLen) {n : ByteArray} (hn : n.size ≤ maxLen) :
    ∃ (v0 : Value) (st : Nat) (w1 : World), (Instr.mapEntry t (.map (some b)) (.string n)).run P w = .ok (.tuple #[v0, goInt st]) w1 ∧ Kb [b] w w1 ∧
      ∀ (w2 : World) (val : Value), w2.heap[b]? = w1.heap[b]? → ∃ w3, (Instr.entryStore t (.map (some b)) (goInt st) val).run P w2 = .ok () w3 ∧ Kb [b] w2 w3 ∧ SM P k b ((n, val) :: L) w3 := by
  obtain ⟨D, c, h1, ⟨es, clock, hb, F, hs, hD⟩, h3⟩ := id h.is
  obtain ⟨v0, st, es1, clock1, hrun, -, hst⟩ := entry_then_store (string_law hk) ht hz hb F (keyOf_string_mk hk hn)
  refine ⟨v0, st, _, hrun, kb_setBlock hb, fun w2 val hw2 => ?_⟩
  rw [setBlock_at hb] at hw2
  obtain ⟨es', clock', hr2, hup⟩ := hst w2 val hw2
  refine ⟨_, hr2, kb_setBlock hw2, ?_⟩
  obtain ⟨w', hr3, hsm, hg⟩ := h.put hk ht hl hn val
  rw [hup] at hr3
  have hw' : w' = setBlock w b (.map es' clock') := by
    have := hr3
    simp only [Result.ok.injEq, true_and] at this
    exact this.symm
  rw [hw'] at hsm
  exact hsm.at (by rw [setBlock_at hw2, setBlock_at hb])
end Go.Proofs.Ytkjgghbdpmkmoaa
namespace Go.Proofs.Ytkjgghbdpmkmoaa
open Go.RowKit Go.Maps
set_option linter.unusedSimpArgs false
set_option linter.unusedVariables false
set_option maxRecDepth 100000

/-! ### Plain -/
def pushA (t l : ENV) : ENV := l.reverse ++ t
theorem pushA_nil (t : ENV) : pushA t [] = t := rfl
theorem pushA_cons (t : ENV) (e : ByteArray × Int) (l : ENV) : pushA t (e :: l) = pushA (e :: t) l := by simp [pushA]
theorem pushA_app (t l m : ENV) : pushA t (l ++ m) = pushA (pushA t l) m := by simp [pushA]
def kindL3 (s : SP) : ENV := (s.ins.map fun v => (v.name, v.kind)) ++ (s.outs.map fun v => (v.name, v.kind)) ++ (s.vars.map fun v => (v.name, v.kind))
/-- What names' kinds are. -/
def ksP (s : SP) : ENV := pushA (pushA [] (kindL3 s)) (s.cells.map fun c => (c.name, c.kind))
/-- What cells begin with. -/
def csP (s : SP) : ENV := pushA [] (s.cells.map fun c => (c.name, c.init))
def inP : List CV → List Int → ENV
  | v :: l, n :: r => (v.name, n) :: inP l r
  | _, _ => []
def zeroL (s : SP) : ENV := (s.outs.map fun v => (v.name, (0 : Int))) ++ (s.vars.map fun v => (v.name, (0 : Int)))
/-- A tick: what names have behind it. -/
def tickP (s : SP) (vs : ENV) (r : List Int) : ENV := doL (ksP s) s.body (pushA (pushA vs (inP s.ins r)) (zeroL s))
def goT (s : SP) : ENV → List (List Int) → List (List Int)
  | _, [] => []
  | vs, r :: rs => (s.outs.map fun v => getV (tickP s vs r) v.name) :: goT s (tickP s vs r) rs
def runS (s : SP) (rs : List (List Int)) : Int × List (List Int) :=
  if chkS s ≠ 0 then (40, []) else if askV (s.ins.map CV.kind) rs ≠ 0 then (askV (s.ins.map CV.kind) rs, []) else (0, goT s (csP s) rs)
/-! ### What holds of step code that the rules take -/
theorem chkS_zero {s : SP} (h : chkS s = 0) : longS s = true ∧ (putN [] s.names).2 = true ∧ formsS s = true := by
  unfold chkS at h
  cases h1 : longS s with
  | false => rw [h1] at h; simp at h
  | true =>
    rw [h1] at h
    cases h2 : (putN [] s.names).2 with
    | false => rw [h2] at h; simp at h
    | true =>
      rw [h2] at h
      cases h3 : kindsS s with
      | false => rw [h3] at h; simp at h
      | true =>
        rw [h3] at h
        cases h4 : formsS s with
        | false => rw [h4] at h; simp at h
        | true => exact ⟨rfl, rfl, rfl⟩
theorem frR_of {e : CE} (h : partsE (fun e => decide (kidsN e.form = e.kids.length) && (decide (e.form ≠ 1) || isk e.kind e.n)) e = true) : frR e := by
  unfold frR
  refine partsE_mono (fun e he => ?_) e h
  rw [Bool.and_eq_true] at he
  have h1 : kidsN e.form = e.kids.length := by simpa using he.1
  rw [decide_eq_true_eq]
  unfold kidsN at h1
  unfold wantR
  repeat' split at h1
  all_goals
    repeat' split
    all_goals omega
mutual
theorem runP_S : ∀ s : ST, okS s → eachS (fun x => decide (x.form = 1 ∨ x.form = 2 ∨ x.form = 3)) s = true → eachS (fun s => if s.form = 1 ∨ s.form = 2 ∨ s.form = 3 then partsE (fun e => decide (kidsN e.form = e.kids.length) && (decide (e.form ≠ 1) || isk e.kind e.n)) s.e else true) s = true → allS runP s
  | .mk f nm e t l, hok, h1, h2 => by
    rw [eachS, Bool.and_eq_true] at h1 h2
    unfold allS
    have h3 : f = 1 ∨ f = 2 ∨ f = 3 := of_decide_eq_true h1.1
    have h4 := h2.1
    rw [if_pos (show (ST.mk f nm e t l).form = 1 ∨ (ST.mk f nm e t l).form = 2 ∨ (ST.mk f nm e t l).form = 3 from h3)] at h4
    refine ⟨⟨hok, h3, frR_of h4⟩, fun hf => ?_⟩
    have h5 := h1.2
    have h6 := h2.2
    rw [hf] at h5 h6
    simp only [ne_eq, not_true_eq_false, decide_false, Bool.false_or, Bool.and_eq_true] at h5 h6
    unfold okS at hok
    exact ⟨runP_L t hok.2.2.2.1 h5.1 h6.1, runP_L l hok.2.2.2.2 h5.2 h6.2⟩
theorem runP_L : ∀ l : List ST, okL l → eachL (fun x => decide (x.form = 1 ∨ x.form = 2 ∨ x.form = 3)) l = true → eachL (fun s => if s.form = 1 ∨ s.form = 2 ∨ s.form = 3 then partsE (fun e => decide (kidsN e.form = e.kids.length) && (decide (e.form ≠ 1) || isk e.kind e.n)) s.e else true) l = true → allL runP l
  | [], _, _, _ => by unfold allL; trivial
  | s :: ss, hok, h1, h2 => by
    rw [eachL, Bool.and_eq_true] at h1 h2
    unfold okL at hok
    unfold allL
    exact ⟨runP_S s hok.1 h1.1 h2.1, runP_L ss hok.2 h1.2 h2.2⟩
end
theorem runP_of {s : SP} (hok : okP s) (h : formsS s = true) : allL runP s.body := by
  unfold formsS at h
  rw [Bool.and_eq_true, Bool.and_eq_true] at h
  exact runP_L s.body hok.body h.1.1 h.1.2
mutual
theorem fits_cntS : ∀ (s : ST) (deep c : Int), (fitsS s deep c).2 = true → (fitsS s deep c).1 = c + (cntS s : Int)
  | .mk f nm e t l, deep, c, h => by
    rw [fitsS] at h ⊢
    rw [cntS]
    split at h
    · cases h
    rename_i h1
    rw [if_neg h1]
    split at h
    · rename_i h2
      rw [if_pos h2, if_neg h2]; simp
    rename_i h2
    have h3 : f = 3 := by simpa using h2
    rw [if_neg h2, if_pos h3]
    split at h
    · cases h
    rename_i h4
    rw [if_neg h4]
    split at h
    · cases h
    rename_i h5
    rw [if_neg h5]
    split at h
    · cases h
    rename_i h6
    rw [if_neg h6]
    have e1 := fits_cntL t (deep + 1) (c + 1) (by simpa using h5)
    have e2 := fits_cntL l (deep + 1) _ h
    rw [e2, e1]
    push_cast
    omega
theorem fits_cntL : ∀ (l : List ST) (deep c : Int), (fitsL l deep c).2 = true → (fitsL l deep c).1 = c + (cntL l : Int)
  | [], deep, c, h => by rw [fitsL, cntL]; simp
  | s :: ss, deep, c, h => by
    rw [fitsL] at h ⊢
    rw [cntL]
    split at h
    · cases h
    rename_i h1
    rw [if_neg h1]
    have e1 := fits_cntS s deep c (by simpa using h1)
    have e2 := fits_cntL ss deep _ h
    rw [e2, e1]
    push_cast
    omega
end
theorem cnt_le {s : SP} (h : longS s = true) : cntL s.body ≤ 20000 := by
  unfold longS at h
  rw [Bool.and_eq_true] at h
  have h1 := h.1
  unfold fitsB at h1
  split at h1
  · cases h1
  · have h2 := fits_cntL s.body 1 0 h1
    have h3 := (fitsL_bd s.body 1 0 (by omega) (by omega)).2.2 h1
    omega
theorem lens_le {s : SP} (h : longS s = true) : s.ins.length + s.outs.length + s.vars.length + s.cells.length ≤ 8000 := by
  unfold longS at h
  rw [Bool.and_eq_true, decide_eq_true_eq] at h
  have := h.2
  omega
theorem inP_len : ∀ (l : List CV) (r : List Int), (inP l r).length ≤ l.length
  | [], _ => by simp [inP]
  | v :: l, [] => by simp [inP]
  | v :: l, n :: r => by
    have := inP_len l r
    simp [inP]; omega
theorem getV_nil (n : ByteArray) : getV [] n = 0 := rfl
theorem pushA_64 {l : ENV} : ∀ {t : ENV}, (∀ n, I64 (getV t n)) → (∀ e ∈ l, I64 e.2) → ∀ n, I64 (getV (pushA t l) n) := by
  induction l with
  | nil => intro t h _ n; exact h n
  | cons e l ih =>
    intro t h hl n
    rw [pushA_cons]
    refine ih (t := e :: t) (fun m => ?_) (fun e he => hl e (by simp [he])) n
    have : getV (e :: t) m = if e.1 = m then e.2 else getV t m := getV_cons m e.1 e.2 t
    rw [this]
    by_cases h1 : e.1 = m
    · rw [if_pos h1]; exact hl e (by simp)
    · rw [if_neg h1]; exact h m
theorem inP_64 : ∀ (l : List CV) (r : List Int), (∀ n ∈ r, I64 n) → ∀ e ∈ inP l r, I64 e.2
  | [], _, _, _, h => by simp [inP] at h
  | v :: l, [], _, _, h => by simp [inP] at h
  | v :: l, n :: r, hr, e, h => by
    simp only [inP, List.mem_cons] at h
    rcases h with h | h
    · rw [h]; exact hr n (by simp)
    · exact inP_64 l r (fun m hm => hr m (by simp [hm])) e h
theorem inP_step {l : List CV} {r : List Int} {j : Nat} {v : CV} {n : Int} (h1 : l[j]? = some v) (h2 : r[j]? = some n) : inP (l.drop j) (r.drop j) = (v.name, n) :: inP (l.drop (j + 1)) (r.drop (j + 1)) := by
  obtain ⟨a1, rfl⟩ := List.getElem?_eq_some_iff.1 h1
  obtain ⟨a2, rfl⟩ := List.getElem?_eq_some_iff.1 h2
  rw [List.drop_eq_getElem_cons a1, List.drop_eq_getElem_cons a2, inP]
theorem goT_step {s : SP} {vs : ENV} {rs : List (List Int)} {j : Nat} {r : List Int} (h : rs[j]? = some r) : goT s vs (rs.drop j) = (s.outs.map fun v => getV (tickP s vs r) v.name) :: goT s (tickP s vs r) (rs.drop (j + 1)) := by
  obtain ⟨a1, rfl⟩ := List.getElem?_eq_some_iff.1 h
  rw [List.drop_eq_getElem_cons a1, goT]
theorem askL_len {ks : List Int} : ∀ {rs : List (List Int)}, askL ks rs = 0 → ∀ r ∈ rs, r.length = ks.length
  | [], _, _, h => by cases h
  | x :: rs, h, r, hr => by
    rw [askL] at h
    have h0 : askR ks x = 0 := by
      refine Classical.byContradiction fun e => ?_
      rw [if_pos e] at h
      exact e h
    rw [if_neg (by simpa using h0)] at h
    rcases List.mem_cons.1 hr with e | e
    · rw [e]
      unfold askR at h0
      split at h0
      · cases h0
      · rename_i h1; simpa using h1
    · exact askL_len h r e
theorem askV_zero {ks : List Int} {rs : List (List Int)} (h : askV ks rs = 0) : rs.length ≤ 1000 ∧ ∀ r ∈ rs, r.length = ks.length := by
  unfold askV at h
  split at h
  · cases h
  · rename_i h1
    exact ⟨by omega, askL_len h⟩
/-! ### What the walk keeps -/
structure RU (W0 : World) (x : S5) (B X K V : Nat) (ks vs : ENV) (w : World) : Prop where
  rk : RK W0 X K V ks vs w
  box : BoxV B [x.iv, x.ov, x.vv, x.cv, x.bv] w
  bk : B ≠ K
  bv : B ≠ V
section
variable {W0 w w' : World} {x : S5} {B X K V : Nat} {ks vs : ENV}
theorem RU.next (h : RU W0 x B X K V ks vs w) (hx : Ext w w') : RU W0 x B X K V ks vs w' := ⟨h.rk.next hx, h.box.ext hx, h.bk, h.bv⟩
theorem RU.putV (h : RU W0 x B X K V ks vs w) {n : ByteArray} (hn : n.size ≤ maxLen) (hl : vs.length ≤ 1000000000000) (v : Int) : ∃ w', (Instr.mapUpdate 62 (.map (some V)) (.string n) (.int .i64 v)).run Try.prog w = .ok () w' ∧ Kb [V] w w' ∧ RU W0 x B X K V ks ((n, v) :: vs) w' := by
  obtain ⟨w', h1, h2, h3⟩ := h.rk.putV hn hl v
  exact ⟨w', h1, h2, h3, h.box.kb h2 (by simpa using h.bv), h.bk, h.bv⟩
theorem RU.putK (h : RU W0 x B X K V ks vs w) {n : ByteArray} (hn : n.size ≤ maxLen) (hl : ks.length ≤ 1000000000000) (v : Int) : ∃ w', (Instr.mapUpdate 62 (.map (some K)) (.string n) (.int .i64 v)).run Try.prog w = .ok () w' ∧ Kb [K] w w' ∧ RU W0 x B X K V ((n, v) :: ks) vs w' := by
  obtain ⟨w', h1, h2, h3⟩ := h.rk.putK hn hl v
  exact ⟨w', h1, h2, h3, h.box.kb h2 (by simpa using h.bk), h.bk, h.bv⟩
/-- r.kinds[n], r.n[n] = k, v. -/
theorem RU.putKV (h : RU W0 x B X K V ks vs w) {n : ByteArray} (hn : n.size ≤ maxLen) (hl : ks.length ≤ 1000000000000) (hl2 : vs.length ≤ 1000000000000) (k v : Int) :
    ∃ (a0 b0 : Value) (sa sb : Nat) (w1 w2 w3 w4 : World), (Instr.mapEntry 62 (.map (some K)) (.string n)).run Try.prog w = .ok (.tuple #[a0, goInt sa]) w1 ∧
      (Instr.entryStore 62 (.map (some K)) (goInt sa) (.int .i64 k)).run Try.prog w1 = .ok () w2 ∧
      (Instr.mapEntry 62 (.map (some V)) (.string n)).run Try.prog w2 = .ok (.tuple #[b0, goInt sb]) w3 ∧
      (Instr.entryStore 62 (.map (some V)) (goInt sb) (.int .i64 v)).run Try.prog w3 = .ok () w4 ∧
      (Kb [K, V] w w1 ∧ Kb [K, V] w w2 ∧ Kb [K, V] w w3 ∧ Kb [K, V] w w4) ∧ RU W0 x B X K V ((n, k) :: ks) ((n, v) :: vs) w4 := by
  obtain ⟨a0, sa, w1, h1, k1, h2⟩ := h.rk.kmap.entry Try.underlying9 Try.underlying62 zeroI (by unfold envL maxLen; simp; omega) hn
  obtain ⟨w2, h3, k2, h4⟩ := h2 w1 (.int .i64 k) rfl
  have hv2 : SM Try.prog 9 V (envL vs) w2 := (h.rk.vmap.kb k1 (by simpa using h.rk.kv.symm)).kb k2 (by simpa using h.rk.kv.symm)
  obtain ⟨b0, sb, w3, h5, k3, h6⟩ := hv2.entry Try.underlying9 Try.underlying62 zeroI (by unfold envL maxLen; simp; omega) hn
  obtain ⟨w4, h7, k4, h8⟩ := h6 w3 (.int .i64 v) rfl
  have kk1 : Kb [K, V] w w1 := k1.mono (by simp)
  have kk2 : Kb [K, V] w w2 := kk1.trans (k2.mono (by simp))
  have kk3 : Kb [K, V] w w3 := kk2.trans (k3.mono (by simp))
  have kk : Kb [K, V] w w4 := kk3.trans (k4.mono (by simp))
  refine ⟨a0, b0, sa, sb, w1, w2, w3, w4, h1, h3, h5, h7, ⟨kk1, kk2, kk3, kk⟩, ?_⟩
  have hk4 : SM Try.prog 9 K (envL ((n, k) :: ks)) w4 := (h4.kb k3 (by simpa using h.rk.kv)).kb k4 (by simpa using h.rk.kv)
  exact { rk := { h.rk with ext := kk.ext h.rk.ext (by simp; exact ⟨h.rk.nk, h.rk.nv⟩), box := h.rk.box.kb kk (by simp; exact ⟨h.rk.xk, h.rk.xv⟩), kmap := hk4, vmap := h8 }, box := h.box.kb kk (by simp; exact ⟨h.bk, h.bv⟩), bk := h.bk, bv := h.bv }
end
end Go.Proofs.Ytkjgghbdpmkmoaa
namespace Go.Proofs.Ytkjgghbdpmkmoaa
open Go.RowKit Go.Maps
set_option linter.unusedSimpArgs false
set_option linter.unusedVariables false
set_option maxRecDepth 100000

def rowsK (s : SP) : Nat → ENV
  | 0 => kindL3 s
  | 1 => (s.outs.map fun v => (v.name, v.kind)) ++ (s.vars.map fun v => (v.name, v.kind))
  | 2 => s.vars.map fun v => (v.name, v.kind)
  | _ => []
theorem rowsK_step (s : SP) {k : Nat} (h : k < 3) : rowsK s k = ((listP s k).map fun v => (v.name, v.kind)) ++ rowsK s (k + 1) := by
  rcases (show k = 0 ∨ k = 1 ∨ k = 2 by omega) with rfl | rfl | rfl
  · simp [listP, rowsK, kindL3]
  · simp [listP, rowsK]
  · simp [listP, rowsK]
def listZ (s : SP) : Nat → List CV | 0 => s.outs | _ => s.vars
def rowsZ (s : SP) : Nat → ENV
  | 0 => zeroL s
  | 1 => s.vars.map fun v => (v.name, (0 : Int))
  | _ => []
theorem rowsZ_step (s : SP) {k : Nat} (h : k < 2) : rowsZ s k = ((listZ s k).map fun v => (v.name, (0 : Int))) ++ rowsZ s (k + 1) := by
  rcases (show k = 0 ∨ k = 1 by omega) with rfl | rfl
  · simp [listZ, rowsZ, zeroL]
  · simp [listZ, rowsZ]
theorem index2s (a b : Value) (w : World) : Sem.run Try.prog (Instr.index 66 (.agg #[a, b]) (.int .i64 0)) w = .ok a w ∧ Sem.run Try.prog (Instr.index 66 (.agg #[a, b]) (.int .i64 1)) w = .ok b w :=
  ⟨by kernel_rfl, by kernel_rfl⟩
theorem run_world {w w3 : World} {x : S5} {B : Nat} (hx : Ext w w3) (hb : BoxV B [x.iv, x.ov, x.vv, x.cv, x.bv] w3) : RU w x B (w3.heap.size + 1 + 1) w3.heap.size (w3.heap.size + 1) [] [] (((w3.alloc (.map #[] 0)).alloc (.map #[] 0)).alloc (.cells #[.map (some w3.heap.size), .map (some (w3.heap.size + 1))] 64)) := by
  have hsz := hx.size
  have hbl := hb.lt
  obtain ⟨A, hA⟩ : ∃ A, A = w3.alloc (.map #[] 0) := ⟨_, rfl⟩
  have hxA : Ext w3 A := by rw [hA]; exact (Ext.refl w3).alloc _
  have hsA : A.heap.size = w3.heap.size + 1 := by rw [hA]; simp
  have hmA : SM Try.prog 9 w3.heap.size [] A := by rw [hA]; exact SM.made _ _ w3
  rw [← hA]
  obtain ⟨C, hC⟩ : ∃ C, C = A.alloc (.map #[] 0) := ⟨_, rfl⟩
  have hxC : Ext A C := by rw [hC]; exact (Ext.refl A).alloc _
  have hsC : C.heap.size = w3.heap.size + 1 + 1 := by rw [hC]; simp [hsA]
  have hmC : SM Try.prog 9 (w3.heap.size + 1) [] C := by rw [hC, ← hsA]; exact SM.made _ _ A
  rw [← hC]
  have hxD : Ext C (C.alloc (.cells #[.map (some w3.heap.size), .map (some (w3.heap.size + 1))] 64)) := (Ext.refl C).alloc _
  have hbD : BoxV (w3.heap.size + 1 + 1) [.map (some w3.heap.size), .map (some (w3.heap.size + 1))] (C.alloc (.cells #[.map (some w3.heap.size), .map (some (w3.heap.size + 1))] 64)) := by
    rw [← hsC]; exact BoxV.of_row (heap_alloc_last C _)
  exact { rk := { ext := ((hx.trans hxA).trans hxC).trans hxD, box := hbD, kmap := (hmA.ext hxC).ext hxD, vmap := hmC.ext hxD, nx := by omega, nk := by omega, nv := by omega, xk := by omega, xv := by omega, kv := by omega }, box := ((hb.ext hxA).ext hxC).ext hxD, bk := by omega, bv := by omega }
theorem RU.kb {W0 w w' : World} {x : S5} {B X K V : Nat} {ks vs : ENV} {S : List Nat} (h : RU W0 x B X K V ks vs w) (hk : Kb S w w') (hS : X ∉ S ∧ K ∉ S ∧ V ∉ S ∧ B ∉ S) (hW : ∀ k ∈ S, W0.heap.size ≤ k) : RU W0 x B X K V ks vs w' :=
  { h with rk := { h.rk with ext := hk.ext h.rk.ext hW, box := h.rk.box.kb hk hS.1, kmap := h.rk.kmap.kb hk hS.2.1, vmap := h.rk.vmap.kb hk hS.2.2.1 }, box := h.box.kb hk hS.2.2.2 }
theorem RU.lt4 {W0 w : World} {x : S5} {B X K V : Nat} {ks vs : ENV} (h : RU W0 x B X K V ks vs w) : ∀ k ∈ [X, K, V, B], k < w.heap.size := by
  intro k hk
  simp only [List.mem_cons, List.not_mem_nil, or_false] at hk
  rcases hk with rfl | rfl | rfl | rfl
  · exact h.rk.box.lt
  · exact h.rk.kmap.lt
  · exact h.rk.vmap.lt
  · exact h.box.lt
theorem OutsA.nil (W : World) (Sr St : List Nat) {w : World} (hx : Ext W w) : OutsA W (.slice none 0 0) [] [] Sr St w :=
  ⟨hx, own_nil _ _ _ _, rfl, fun j x r h => by simp at h, fun b h => by simp [Value.ownBlock] at h⟩
set_option maxHeartbeats 32000000 in
theorem run_any (s : SP) (x : S5) (v : Value) (vs : List Value) (rs : List (List Int)) (w : World) (hs : SPIn w s x) (hok : okP s) (hr : RowsIn w v vs rs) (hI : ∀ r ∈ rs, ∀ n ∈ r, I64 n) :
    Calls Try.prog 10 #[.agg #[x.iv, x.ov, x.vv, x.cv, x.bv], v] w (RunP w (runS s rs)) := by
  obtain ⟨R, hR⟩ : ∃ R, R = runS s rs := ⟨_, rfl⟩
  rw [← hR]
  obtain ⟨Q, hQ⟩ : ∃ Q, Q = RunP w R := ⟨_, rfl⟩
  rw [← hQ]
  have HQ := Lib.hid hQ
  have HR := Lib.hid hR
  obtain ⟨iv, ov, vv, cv, bv⟩ := x
  obtain ⟨p1, c1, e1, hd1, hm1⟩ := hs.ins.slice
  obtain ⟨p2, c2, e2, hd2, hm2⟩ := hs.outs.slice
  obtain ⟨p3, c3, e3, hd3, hm3⟩ := hs.vars.slice
  obtain ⟨p4, c4, e4, hd4, hm4⟩ := hs.cells.slice
  obtain ⟨p5, c5, e5, -, -⟩ := hs.body.slice
  simp only at e1 e2 e3 e4 e5
  subst e1 e2 e3 e4 e5
  obtain ⟨y, hy⟩ : ∃ y : S5, y = ⟨.slice p1 s.ins.length c1, .slice p2 s.outs.length c2, .slice p3 s.vars.length c3, .slice p4 s.cells.length c4, .slice p5 s.body.length c5⟩ := ⟨_, rfl⟩
  have HYA := Lib.hid (show (Value.agg #[y.iv, y.ov, y.vv, y.cv, y.bv]) = .agg #[.slice p1 s.ins.length c1, .slice p2 s.outs.length c2, .slice p3 s.vars.length c3, .slice p4 s.cells.length c4, .slice p5 s.body.length c5] by rw [hy])
  rw [← hy] at hs
  have HY := Lib.hid hy
  have HS := Lib.hid (And.intro hs (And.intro hok (And.intro hr hI)))
  obtain ⟨n1, h1⟩ : ∃ n, n = s.ins.length := ⟨_, rfl⟩
  obtain ⟨n2, h2⟩ : ∃ n, n = s.outs.length := ⟨_, rfl⟩
  obtain ⟨n3, h3⟩ : ∃ n, n = s.vars.length := ⟨_, rfl⟩
  obtain ⟨n4, h4⟩ : ∃ n, n = s.cells.length := ⟨_, rfl⟩
  obtain ⟨n5, h5⟩ : ∃ n, n = s.body.length := ⟨_, rfl⟩
  have HN := Lib.hid (And.intro h1 (And.intro h2 (And.intro h3 (And.intro h4 h5))))
  have HYV : Hid (y = ⟨.slice p1 n1 c1, .slice p2 n2 c2, .slice p3 n3 c3, .slice p4 n4 c4, .slice p5 n5 c5⟩) := Lib.hid (by rw [hy, h1, h2, h3, h4, h5])
  simp only [← h1, ← h2, ← h3, ← h4] at hd1 hd2 hd3 hd4
  simp only [← h1, ← h2, ← h3, ← h4, ← h5]
  have hc1 : (c1 : Int) ≤ 9223372036854775807 := by unfold maxLen at hm1; omega
  have hc2 : (c2 : Int) ≤ 9223372036854775807 := by unfold maxLen at hm2; omega
  have hc3 : (c3 : Int) ≤ 9223372036854775807 := by unfold maxLen at hm3; omega
  have hc4 : (c4 : Int) ≤ 9223372036854775807 := by unfold maxLen at hm4; omega
  obtain ⟨va, vcap, rfl, hv1, hv2, hvc⟩ := id hr.top
  obtain ⟨nr, hnr⟩ : ∃ n, n = rs.length := ⟨_, rfl⟩
  rw [← hnr] at hv1 ⊢
  have HNR := Lib.hid (And.intro hnr hvc)
  have hcv : (vcap : Int) ≤ 9223372036854775807 := by unfold maxLen at hv2; omega
  obtain ⟨er, her⟩ : ∃ e, e = chkS s := ⟨_, rfl⟩
  have HCH : Hid (∀ w1, Ext w w1 → Calls Try.prog 8 #[.agg #[.slice p1 n1 c1, .slice p2 n2 c2, .slice p3 n3 c3, .slice p4 n4 c4, .slice p5 n5 c5]] w1 (RetI er w1)) := Lib.hid (fun w1 hx1 => by
    have := check_any s y w1 ⟨hs.ins.ext hx1, hs.outs.ext hx1, hs.vars.ext hx1, hs.cells.ext hx1, hs.body.ext hx1⟩ hok
    rw [HYV.out] at this
    rw [her]; exact this)
  have HER := Lib.hid her
  have hbB : BoxV w.heap.size [.slice p1 n1 c1, .slice p2 n2 c2, .slice p3 n3 c3, .slice p4 n4 c4, .slice p5 n5 c5] (w.alloc (.cells #[.slice p1 n1 c1, .slice p2 n2 c2, .slice p3 n3 c3, .slice p4 n4 c4, .slice p5 n5 c5] 28)) := BoxV.of_row (heap_alloc_last w _)
  have hxB : Ext w (w.alloc (.cells #[.slice p1 n1 c1, .slice p2 n2 c2, .slice p3 n3 c3, .slice p4 n4 c4, .slice p5 n5 c5] 28)) := (Ext.refl w).alloc _
  have HXB := Lib.hid (And.intro hxB hbB)
  clear hQ hR hs hok hr hI hy h1 h2 h3 h4 h5 hm1 hm2 hm3 hm4 hv2 hnr hvc her
  go_enter Try.func10, Try.ntmps10
  go_upto_region 1 with fail
  generalize (w.alloc (.cells #[.slice p1 n1 c1, .slice p2 n2 c2, .slice p3 n3 c3, .slice p4 n4 c4, .slice p5 n5 c5] 28)) = wb at hbB hxB HXB ⊢
  obtain ⟨B, hB⟩ : ∃ B, B = w.heap.size := ⟨_, rfl⟩
  rw [← hB] at hbB HXB ⊢
  have HB := Lib.hid hB
  have b0 := hbB.cells 0 _ rfl
  have b1 := hbB.cells 1 _ rfl
  have b2 := hbB.cells 2 _ rfl
  have b3 := hbB.cells 3 _ rfl
  have b4 := hbB.cells 4 _ rfl
  have bl := hbB.lt
  clear hbB hxB hB
  by_cases h0 : er = 0
  case neg =>
    have q0 : (er != 0) = true := by simpa using h0
    have HC : Hid (R = (40, [])) := Lib.hid (by rw [HR.out]; unfold runS; rw [if_pos (by rw [← HER.out]; exact h0)])
    clear h0
    go_wp2_with (first | (go_at_call 8; refine (HCH.out _ HXB.out.1).mono ?_; rintro e1 w1 ⟨rfl, H1⟩) | fail)
    rw [HQ.out]
    exact RunP.no (HXB.out.1.trans H1.out) HC.out
  case pos =>
  subst h0
  have HZ := Lib.hid (chkS_zero HER.out.symm)
  have hlen := lens_le HZ.out.1
  go_upto_region 3 with (first | (go_at_call 8; refine (HCH.out _ HXB.out.1).mono ?_; rintro e1 w1 ⟨rfl, H1⟩) | fail)
  have HX1 : Hid (Ext w w1 ∧ BoxV B [.slice p1 n1 c1, .slice p2 n2 c2, .slice p3 n3 c3, .slice p4 n4 c4, .slice p5 n5 c5] w1) := Lib.hid ⟨HXB.out.1.trans H1.out, HXB.out.2.ext H1.out⟩
  clear b0 b1 b2 b3 b4 bl
  have b0 := HX1.out.2.cells 0 _ rfl
  have bl := HX1.out.2.lt
  have hl1 : n1 + n2 + n3 + n4 ≤ 8000 := by
    obtain ⟨h1, h2, h3, h4, h5⟩ := HN.out
    omega
  obtain ⟨KS, hKS⟩ : ∃ l, l = s.ins.map CV.kind := ⟨_, rfl⟩
  have HKI : Hid (Calls Try.prog 21 #[.slice p1 n1 c1] w1 (RetR KS w1)) := Lib.hid (by
    have hin := (HS.out.1.ins).ext HX1.out.1
    rw [HYV.out] at hin
    rw [hKS]
    exact ckinds_any s.ins _ w1 hin (by have := HN.out.1; omega))
  obtain ⟨ea, hea⟩ : ∃ e, e = askV KS rs := ⟨_, rfl⟩
  obtain ⟨kl, hkl⟩ : ∃ n, n = KS.length := ⟨_, rfl⟩
  have HAS : Hid (∀ w2 a c, Ext w1 w2 → SlC w2 (.slice a kl c) KS.length (i64s KS) → Calls Try.prog 20 #[.slice a kl c, .slice va nr vcap] w2 (RetE0 ea w2)) := Lib.hid (fun w2 a c hx2 hsl => by
    have hr2 := HS.out.2.2.1.ext (HX1.out.1.trans hx2)
    rw [← HNR.out.1] at hr2
    rw [hea]
    exact ask_any _ _ _ vs rs w2 hsl hr2)
  have HEA := Lib.hid hea
  have HKS := Lib.hid hKS
  have HKL := Lib.hid hkl
  have HKI2 : Hid (Calls Try.prog 21 #[.slice p1 n1 c1] w1 fun e w' => ∃ a c, e = .returned (.slice a kl c) ∧ Hid (SlC w' (.slice a kl c) KS.length (i64s KS) ∧ Ext w1 w')) := Lib.hid (HKI.out.mono (fun e w' ⟨a, c, h1, h2⟩ => ⟨a, c, by rw [hkl]; exact h1, by rw [hkl]; exact h2⟩))
  clear hea hlen hKS hkl HKI
  by_cases h0 : ea = 0
  case neg =>
    have q0 : (ea != 0) = true := by simpa using h0
    have HC : Hid (R = (ea, [])) := Lib.hid (by rw [HR.out]; unfold runS; rw [if_neg (by rw [← HER.out]; simp), ← HKS.out, if_pos (by rw [← HEA.out]; exact h0), ← HEA.out])
    clear h0
    go_wp2_with (first | (go_at_call 21; refine HKI2.out.mono ?_; rintro e1 w2 ⟨a2, k2, rfl, H2⟩) | (go_at_call 20; refine (HAS.out _ _ _ H2.out.2 H2.out.1).mono ?_; rintro e1 w3 ⟨rfl, H3⟩) | fail)
    rw [HQ.out]
    exact RunP.no (HX1.out.1.trans (H2.out.2.trans H3.out)) HC.out
  case pos =>
  subst h0
  have HAZ : Hid (rs.length ≤ 1000 ∧ ∀ r ∈ rs, r.length = n1) := Lib.hid (by
    have h1 := askV_zero HEA.out.symm
    exact ⟨h1.1, fun r hr => by rw [h1.2 r hr, HKS.out, List.length_map, ← HN.out.1]⟩)
  have HC : Hid (R = (0, goT s (csP s) rs)) := Lib.hid (by rw [HR.out]; unfold runS; rw [if_neg (by rw [← HER.out]; simp), ← HKS.out, if_neg (by rw [← HEA.out]; simp)])
  have hmk := @run_makeMap Try.prog
  go_upto_region 7 with (first | (go_at_call 21; refine HKI2.out.mono ?_; rintro e1 w2 ⟨a2, k2, rfl, H2⟩) | (go_at_call 20; refine (HAS.out _ _ _ H2.out.2 H2.out.1).mono ?_; rintro e1 w3 ⟨rfl, H3⟩) | fail)
  clear hmk b0 bl
  have HRU0 := Lib.hid (run_world (x := y) (B := B) ((HX1.out.1.trans H2.out.2).trans H3.out) (by rw [HYV.out]; exact (HX1.out.2.ext H2.out.2).ext H3.out))
  obtain ⟨K, hK⟩ : ∃ X, X = w3.heap.size := ⟨_, rfl⟩
  rw [← hK] at HRU0
  simp only [← hK]
  clear hK
  generalize ((w3.alloc (.map #[] 0)).alloc (.map #[] 0)).alloc (.cells #[.map (some K), .map (some (K + 1))] 64) = w4 at HRU0 ⊢
  generalize K + 1 + 1 = X at HRU0 ⊢
  generalize K + 1 = V at HRU0 ⊢
  have HKVN : Hid (K ≠ V) := Lib.hid HRU0.out.rk.kv
  have b0 := HRU0.out.box.cells 0 _ rfl
  have b1 := HRU0.out.box.cells 1 _ rfl
  have b2 := HRU0.out.box.cells 2 _ rfl
  have bl := HRU0.out.box.lt
  rw [HYV.out] at b0 b1 b2
  clear HX1 H1 H2 H3 HKI2 HAS
  go_upto_region 8 with fail
  clear b0 b1 b2 bl
  go_loopw [48] (fun i wr => ∃ (k : Nat) (t : ENV), k ≤ 3 ∧ i = .int .i64 (k : Int) ∧ t.length + (rowsK s k).length ≤ 8000 ∧ Hid (RU w y B X K V t [] wr) ∧ Hid (pushA [] (kindL3 s) = pushA t (rowsK s k))) (fun i _ => 3 - (intOf i).toNat)
  case atStart =>
    refine ⟨0, [], by omega, rfl, ?_, HRU0, Lib.hid rfl⟩
    obtain ⟨e1, e2, e3, e4, e5⟩ := HN.out
    simp [rowsK, kindL3]
    omega
  case round =>
    obtain ⟨k, t, hk, rfl, htl, HCK, HRR⟩ := hrel
    by_cases hlt : k < 3
    · have hki : (k : Int) < 3 := by omega
      have hkl : ∃ pk ck, (∀ w1, Sem.run Try.prog (Instr.index 65 (.agg #[.slice p1 n1 c1, .slice p2 n2 c2, .slice p3 n3 c3]) (.int .i64 (k : Int))) w1 = .ok (.slice pk (listP s k).length ck) w1) ∧ VIn w (.slice pk (listP s k).length ck) (listP s k) ∧ (listP s k).length ≤ ck ∧ ck ≤ maxLen ∧ ∀ v ∈ listP s k, v.name.size ≤ maxLen ∧ I64 v.kind := by
        have hN := HN.out
        have hi := fun w1 => index3s (.slice p1 n1 c1) (.slice p2 n2 c2) (.slice p3 n3 c3) w1
        have hsv := HS.out.1
        rw [HYV.out] at hsv
        rcases (show k = 0 ∨ k = 1 ∨ k = 2 by omega) with rfl | rfl | rfl
        · have hv1 := hsv.ins
          rw [hN.1] at hv1
          obtain ⟨a, b, e1, h1, h2⟩ := hv1.slice
          simp only [Value.slice.injEq] at e1
          refine ⟨p1, c1, fun w1 => ?_, hv1, by rw [e1.2.2]; exact h1, by rw [e1.2.2]; exact h2, HS.out.2.1.ins⟩
          rw [show (listP s 0).length = n1 from hN.1.symm]
          exact (hi w1).1
        · have hv1 := hsv.outs
          rw [hN.2.1] at hv1
          obtain ⟨a, b, e1, h1, h2⟩ := hv1.slice
          simp only [Value.slice.injEq] at e1
          refine ⟨p2, c2, fun w1 => ?_, hv1, by rw [e1.2.2]; exact h1, by rw [e1.2.2]; exact h2, HS.out.2.1.outs⟩
          rw [show (listP s 1).length = n2 from hN.2.1.symm]
          exact (hi w1).2.1
        · have hv1 := hsv.vars
          rw [hN.2.2.1] at hv1
          obtain ⟨a, b, e1, h1, h2⟩ := hv1.slice
          simp only [Value.slice.injEq] at e1
          refine ⟨p3, c3, fun w1 => ?_, hv1, by rw [e1.2.2]; exact h1, by rw [e1.2.2]; exact h2, HS.out.2.1.vars⟩
          rw [show (listP s 2).length = n3 from hN.2.2.1.symm]
          exact (hi w1).2.2
      obtain ⟨pk, ck, hidx, hvin, hle, hcm, hnm⟩ := hkl
      obtain ⟨nk, hnk⟩ : ∃ n, n = (listP s k).length := ⟨_, rfl⟩
      rw [← hnk] at hidx hvin hle
      have hcI : (ck : Int) ≤ 9223372036854775807 := by unfold maxLen at hcm; omega
      have hRk : Hid (pushA [] (kindL3 s) = pushA t (((listP s k).map fun v => (v.name, v.kind)) ++ rowsK s (k + 1))) := Lib.hid (by rw [HRR.out, rowsK_step s hlt])
      have hlk : t.length + nk + (rowsK s (k + 1)).length ≤ 8000 := by
        have := congrArg List.length (rowsK_step s hlt)
        rw [List.length_append, List.length_map, ← hnk] at this
        omega
      have HV := Lib.hid (And.intro hvin (And.intro hnm hnk))
      clear hvin hnm hnk hcm htl HRR
      go_wp2
      go_loopw [53] (fun i wr => ∃ (j : Nat) (t2 : ENV), j ≤ nk ∧ i = .int .i64 (j : Int) ∧ t2.length + (nk - j) + (rowsK s (k + 1)).length ≤ 8000 ∧ Hid (RU w y B X K V t2 [] wr) ∧ Hid (pushA [] (kindL3 s) = pushA t2 ((((listP s k).drop j).map fun v => (v.name, v.kind)) ++ rowsK s (k + 1)))) (fun i _ => nk - (intOf i).toNat)
      case atStart => exact ⟨0, t, Nat.zero_le _, rfl, by omega, HCK, Lib.hid (by rw [hRk.out]; rfl)⟩
      case round =>
        obtain ⟨j, t2, hj, rfl, htl, HC2, HR2⟩ := hrel
        by_cases hlt2 : j < nk
        · have hkj : (j : Int) < (nk : Int) := Int.ofNat_lt.2 hlt2
          obtain ⟨v, hv⟩ : ∃ v, (listP s k)[j]? = some v := ⟨_, List.getElem?_eq_getElem (by have := HV.out.2.2; omega)⟩
          obtain ⟨b, o, pq, nq2, cq, rfl, q0, q1, q2, hbl⟩ := (HV.out.1.ext HC2.out.rk.ext).at hv
          have hsz := (HV.out.2.1 v (List.mem_of_getElem? hv)).1
          have hjc : j < ck := by omega
          have hls : (listP s k).drop j = v :: (listP s k).drop (j + 1) := by
            obtain ⟨h1, h2⟩ := List.getElem?_eq_some_iff.1 hv
            rw [List.drop_eq_getElem_cons h1, h2]
          have HXX := Lib.hid (And.intro hls hsz)
          have hby : BoxV wr.heap.size [.string v.name, .int .i64 v.kind, .slice pq nq2 cq] (wr.alloc (.cells #[.string v.name, .int .i64 v.kind, .slice pq nq2 cq] 32)) := BoxV.of_row (heap_alloc_last wr _)
          have HRY := Lib.hid (HC2.out.next ((Ext.refl wr).alloc (.cells #[.string v.name, .int .i64 v.kind, .slice pq nq2 cq] 32)))
          clear hv hls hsz
          go_upto_region 13 with fail
          generalize (wr.alloc (.cells #[.string v.name, .int .i64 v.kind, .slice pq nq2 cq] 32)) = wy at hby HRY ⊢
          generalize wr.heap.size = Y at hby ⊢
          have d0 := hby.cells 0 _ rfl
          have d1 := hby.cells 1 _ rfl
          have hyl := hby.lt
          have g0 := HRY.out.rk.box.cells 0 _ rfl
          have gl := HRY.out.rk.box.lt
          clear hby q0 q1 q2 hbl
          (refine region_drew_tail 8 (by kernel_rfl) (by kernel_rfl) ?_; simp only [List.take_succ_cons, List.take_zero, List.drop_succ_cons, List.drop_zero]; (repeat (go_big_quiet_step (fail))); refine wpQuiet_nil ?_; rintro _ ⟨nq, rfl⟩)
          obtain ⟨w9, hrun, hk9, hu9⟩ := (HRY.out.next ((Ext.refl wy).drewN nq)).putK HXX.out.2 (by omega) v.kind
          have H9 := Lib.hid hu9
          clear hk9 hu9
          go_wp2
          refine ⟨⟨j + 1, (v.name, v.kind) :: t2, by omega, by go_num, by simp; omega, H9, Lib.hid ?_⟩, by simp [intOf]; omega⟩
          rw [HR2.out, HXX.out.1, List.map_cons, List.cons_append, pushA_cons]
        · have hkj : ¬ (j : Int) < (nk : Int) := fun e => hlt2 (Int.ofNat_lt.1 e)
          obtain rfl : j = nk := by omega
          have H3 : Hid (pushA [] (kindL3 s) = pushA t2 (rowsK s (k + 1))) := Lib.hid (by
            rw [HR2.out, HV.out.2.2, List.drop_length]; rfl)
          go_wp2
          exact ⟨⟨k + 1, t2, by omega, by go_num, by omega, HC2, H3⟩, by simp [intOf]; omega⟩
    · have hki : ¬ (k : Int) < 3 := by omega
      obtain rfl : k = 3 := by omega
      have HKS3 : Hid (t = pushA [] (kindL3 s)) := Lib.hid HRR.out.symm
      have b3 := HCK.out.box.cells 3 _ rfl
      have bl := HCK.out.box.lt
      rw [HYV.out] at b3
      have hl0 : t.length = n1 + n2 + n3 := by
        obtain ⟨e1, e2, e3, e4, e5⟩ := HN.out
        rw [HKS3.out]
        unfold pushA kindL3
        simp
        omega
      have HV4 := Lib.hid (show CIn w (.slice p4 n4 c4) s.cells by
        have := HS.out.1.cells
        rw [HYV.out] at this
        exact this)
      have HKK : Hid (ksP s = pushA t (s.cells.map fun c => (c.name, c.kind))) := Lib.hid (by unfold ksP; rw [HKS3.out])
      clear htl HRR hk hlt hki HKS3
      go_wp2
      go_loopw [70] (fun i wr => ∃ (j : Nat) (t2 vs2 : ENV), j ≤ n4 ∧ i = .int .i64 (j : Int) ∧ t2.length = t.length + j ∧ vs2.length = j ∧ Hid (RU w y B X K V t2 vs2 wr) ∧ Hid (ksP s = pushA t2 ((s.cells.drop j).map fun c => (c.name, c.kind)) ∧ csP s = pushA vs2 ((s.cells.drop j).map fun c => (c.name, c.init)))) (fun i _ => n4 - (intOf i).toNat)
      case atStart => exact ⟨0, t, [], Nat.zero_le _, rfl, by omega, rfl, HCK, Lib.hid ⟨by rw [HKK.out]; rfl, rfl⟩⟩
      case round =>
        obtain ⟨j, t2, vs2, hj, rfl, ht2, hv2, HC2, HR2⟩ := hrel
        by_cases hlt2 : j < n4
        · have hkj : (j : Int) < (n4 : Int) := Int.ofNat_lt.2 hlt2
          obtain ⟨v, hv⟩ : ∃ v, s.cells[j]? = some v := ⟨_, List.getElem?_eq_getElem (by have := HN.out.2.2.2.1; omega)⟩
          obtain ⟨b, o, rfl, q0, q1, q2, hbl⟩ := (HV4.out.ext HC2.out.rk.ext).at hv
          have hsz := (HS.out.2.1.cells v (List.mem_of_getElem? hv)).1
          have hjc : j < c4 := by omega
          have hls : s.cells.drop j = v :: s.cells.drop (j + 1) := by
            obtain ⟨h1, h2⟩ := List.getElem?_eq_some_iff.1 hv
            rw [List.drop_eq_getElem_cons h1, h2]
          have HXX := Lib.hid (And.intro hls hsz)
          have hby : BoxV wr.heap.size [.string v.name, .int .i64 v.kind, .int .i64 v.init] (wr.alloc (.cells #[.string v.name, .int .i64 v.kind, .int .i64 v.init] 39)) := BoxV.of_row (heap_alloc_last wr _)
          have HRY := Lib.hid (HC2.out.next ((Ext.refl wr).alloc (.cells #[.string v.name, .int .i64 v.kind, .int .i64 v.init] 39)))
          clear hv hls hsz
          go_upto_region 19 with fail
          have HYN : Hid (wr.heap.size ∉ [K, V]) := Lib.hid (by
            have e1 := HC2.out.rk.kmap.lt
            have e2 := HC2.out.rk.vmap.lt
            simp; omega)
          generalize (wr.alloc (.cells #[.string v.name, .int .i64 v.kind, .int .i64 v.init] 39)) = wy at hby HRY ⊢
          generalize wr.heap.size = Y at hby HYN ⊢
          have d0 := hby.cells 0 _ rfl
          have d1 := hby.cells 1 _ rfl
          have d2 := hby.cells 2 _ rfl
          have hyl := hby.lt
          have g0 := HRY.out.rk.box.cells 0 _ rfl
          have g1 := HRY.out.rk.box.cells 1 _ rfl
          have gl := HRY.out.rk.box.lt
          clear hby q0 q1 q2 hbl
          have HVX : Hid (X ∉ [K, V] ∧ Y ∉ [K, V]) := Lib.hid ⟨by simp; exact ⟨HRY.out.rk.xk, HRY.out.rk.xv⟩, HYN.out⟩
          obtain ⟨a0, z0, sa, sb, w5, w6, w7, w8, hr5, hr6, hr7, hr8, ⟨k5, k6, k7, k8⟩, hu9⟩ := (HRY.out.next ((Ext.refl wy).drew)).putKV HXX.out.2 (by omega) (by omega) v.kind v.init
          have H9 := Lib.hid hu9
          simp only [goInt] at hr5 hr6 hr7 hr8
          have hq0 : wy.cell? ⟨X, 0, none⟩ = some (.map (some K)) ∧ wy.cell? ⟨X, 1, none⟩ = some (.map (some V)) ∧ wy.cell? ⟨Y, 0, none⟩ = some (.string v.name) ∧ wy.cell? ⟨Y, 1, none⟩ = some (.int .i64 v.kind) ∧ wy.cell? ⟨Y, 2, none⟩ = some (.int .i64 v.init) := ⟨g0, g1, d0, d1, d2⟩
          have hqq : ∀ wz, Kb [K, V] wy.drew wz → wz.cell? ⟨X, 0, none⟩ = some (.map (some K)) ∧ wz.cell? ⟨X, 1, none⟩ = some (.map (some V)) ∧ wz.cell? ⟨Y, 0, none⟩ = some (.string v.name) ∧ wz.cell? ⟨Y, 1, none⟩ = some (.int .i64 v.kind) ∧ wz.cell? ⟨Y, 2, none⟩ = some (.int .i64 v.init) := fun wz hk => ⟨hk.cell HVX.out.1 hq0.1, hk.cell HVX.out.1 hq0.2.1, hk.cell HVX.out.2 hq0.2.2.1, hk.cell HVX.out.2 hq0.2.2.2.1, hk.cell HVX.out.2 hq0.2.2.2.2⟩
          have hq5 := hqq w5 k5
          have hq6 := hqq w6 k6
          have hq7 := hqq w7 k7
          have hq8 := hqq w8 k8
          clear hu9 k5 k6 k7 k8 hqq
          go_region_held3 (fun w' => w'.cell? ⟨X, 0, none⟩ = some (.map (some K)) ∧ w'.cell? ⟨X, 1, none⟩ = some (.map (some V)) ∧ w'.cell? ⟨Y, 0, none⟩ = some (.string v.name) ∧ w'.cell? ⟨Y, 1, none⟩ = some (.int .i64 v.kind) ∧ w'.cell? ⟨Y, 2, none⟩ = some (.int .i64 v.init))
            (first | exact hq0 | exact hq5 | exact hq6 | exact hq7 | exact hq8)
            (fail)
          go_wp2
          refine ⟨⟨j + 1, (v.name, v.kind) :: t2, (v.name, v.init) :: vs2, by omega, by go_num, by simp; omega, by simp; omega, H9, Lib.hid ⟨?_, ?_⟩⟩, by simp [intOf]; omega⟩
          · rw [HR2.out.1, HXX.out.1, List.map_cons, pushA_cons]
          · rw [HR2.out.2, HXX.out.1, List.map_cons, pushA_cons]
        · have hkj : ¬ (j : Int) < (n4 : Int) := fun e => hlt2 (Int.ofNat_lt.1 e)
          obtain rfl : j = n4 := by omega
          have H3 : Hid (t2 = ksP s ∧ vs2 = csP s) := Lib.hid (by
            obtain ⟨e1, e2⟩ := HR2.out
            rw [HN.out.2.2.2.1, List.drop_length] at e1 e2
            exact ⟨e1.symm, e2.symm⟩)
          have H64 : Hid (∀ n, I64 (getV vs2 n)) := Lib.hid (by
            rw [H3.out.2]
            unfold csP
            refine pushA_64 (fun n => zero_64) (fun e he => ?_)
            simp only [List.mem_map] at he
            obtain ⟨c, hc, rfl⟩ := he
            exact (HS.out.2.1.cells c hc).2.2)
          have hk8 : t2.length ≤ 8000 := by omega
          have hv8 : vs2.length ≤ 8000 := by omega
          obtain ⟨rfl, rfl⟩ := H3.out
          have HRP := Lib.hid (And.intro (runP_of HS.out.2.1 HZ.out.2.2) (cnt_le HZ.out.1))
          clear ht2 hv2 hl0 hj hlt2 HR2 HKK HCK H3 b3 bl HKVN HCH HXB HYA
          have hnr : nr ≤ 1000 := by
            have h1 := HAZ.out.1
            have h2 := HNR.out.1
            omega
          go_wp2
          go_loopw [14, 97] (fun o i wr => ∃ (q : Nat) (us : ENV) (p9 : Option Addr) (c9 : Nat) (xs : List Value) (os : List (List Int)), q ≤ nr ∧ i = .int .i64 (q : Int) ∧ o = .slice p9 q c9 ∧ us.length ≤ 8000 + q * 40000 ∧ Hid (RU w y B X K V (ksP s) us wr ∧ OutsA w (.slice p9 q c9) xs os [X, K, V, B] [X, K, V, B] wr ∧ xs.length = q) ∧ Hid ((∀ n, I64 (getV us n)) ∧ goT s (csP s) rs = os ++ goT s us (rs.drop q))) (fun _ i _ => nr - (intOf i).toNat)
          case atStart => exact ⟨0, csP s, none, 0, [], [], Nat.zero_le _, rfl, rfl, by omega, Lib.hid ⟨HC2.out, OutsA.nil _ _ _ HC2.out.rk.ext, rfl⟩, Lib.hid ⟨H64.out, rfl⟩⟩
          case round =>
            obtain ⟨q, us, p9, c9, xs, os, hq, rfl, rfl, hul, HO, HG⟩ := hrel
            obtain ⟨wq, hwq⟩ : ∃ x, x = wr := ⟨_, rfl⟩
            subst hwq
            by_cases hltq : q < nr
            · have hqi : (q : Int) < (nr : Int) := Int.ofNat_lt.2 hltq
              obtain ⟨x, r, hx, hr, hsl⟩ := HS.out.2.2.1.at (j := q) (by have := HNR.out.1; omega)
              obtain ⟨b, o, rfl, f1⟩ := HNR.out.2 q x hx
              obtain ⟨xa, xcap, rfl, l1, l2, lc⟩ := id hsl
              have hrl : r.length = n1 := HAZ.out.2 r (List.mem_of_getElem? hr)
              rw [hrl] at f1 l1
              have f2 := HO.out.1.rk.ext.cell f1
              have z1 : b < wq.heap.size := World.block_lt_of_cell? wq _ f2
              have hqc : q < vcap := by omega
              have hxc : (xcap : Int) ≤ 9223372036854775807 := by unfold maxLen at l2; omega
              have b0 := HO.out.1.box.cells 0 _ rfl
              have b1 := HO.out.1.box.cells 1 _ rfl
              have b2 := HO.out.1.box.cells 2 _ rfl
              have b4 := HO.out.1.box.cells 4 _ rfl
              have bl := HO.out.1.box.lt
              rw [HYV.out] at b0 b1 b2 b4
              have HRW := Lib.hid (And.intro hr (And.intro hrl (And.intro lc (HS.out.2.2.2 r (List.mem_of_getElem? hr)))))
              clear hx hr hsl f1 hrl l2 lc
              go_upto_region 26 with fail
              clear f2 z1 b0
              go_loopw [104] (fun i wr2 => ∃ (k : Nat) (us2 : ENV), k ≤ n1 ∧ i = .int .i64 (k : Int) ∧ us2.length = us.length + k ∧ Hid (Kb [V] wq wr2 ∧ RU w y B X K V (ksP s) us2 wr2) ∧ Hid (pushA us (inP s.ins r) = pushA us2 (inP (s.ins.drop k) (r.drop k)))) (fun i _ => n1 - (intOf i).toNat)
              case atStart => exact ⟨0, us, Nat.zero_le _, rfl, rfl, Lib.hid ⟨Kb.refl _ _, HO.out.1⟩, Lib.hid rfl⟩
              case round =>
                obtain ⟨k, us2, hk, rfl, hu2, HC3, HP3⟩ := hrel
                by_cases hltk : k < n1
                · have hki : (k : Int) < (n1 : Int) := Int.ofNat_lt.2 hltk
                  obtain ⟨v, hv⟩ : ∃ v, s.ins[k]? = some v := ⟨_, List.getElem?_eq_getElem (by have := HN.out.1; omega)⟩
                  obtain ⟨nn, hnn⟩ : ∃ v, r[k]? = some v := ⟨_, List.getElem?_eq_getElem (by have := HRW.out.2.1; omega)⟩
                  have hin := (HS.out.1.ins).ext HC3.out.2.rk.ext
                  rw [HYV.out] at hin
                  obtain ⟨bb, oo, pq, nq2, cq, rfl, q0, q1, q2, hbl⟩ := hin.at hv
                  have hsz := (HS.out.2.1.ins v (List.mem_of_getElem? hv)).1
                  obtain ⟨b5, o5, rfl, e5⟩ := HRW.out.2.2.1 k (.int .i64 nn) (by unfold i64s; rw [List.getElem?_map, hnn]; rfl)
                  have e6 := HC3.out.2.rk.ext.cell e5
                  have hk1 : k < c1 := by omega
                  have hk2 : k < xcap := by omega
                  have HXX := Lib.hid (And.intro (inP_step hv hnn) hsz)
                  have hby : BoxV wr.heap.size [.string v.name, .int .i64 v.kind, .slice pq nq2 cq] (wr.alloc (.cells #[.string v.name, .int .i64 v.kind, .slice pq nq2 cq] 32)) := BoxV.of_row (heap_alloc_last wr _)
                  have hxy : Ext wr (wr.alloc (.cells #[.string v.name, .int .i64 v.kind, .slice pq nq2 cq] 32)) := (Ext.refl wr).alloc _
                  have HRY := Lib.hid (And.intro hxy (HC3.out.2.next hxy))
                  have e7 := hxy.cell e6
                  clear hv hnn hin hsz e5 hxy
                  go_upto_region 28 with fail
                  generalize (wr.alloc (.cells #[.string v.name, .int .i64 v.kind, .slice pq nq2 cq] 32)) = wy at hby HRY e7 ⊢
                  generalize wr.heap.size = Y at hby ⊢
                  have d0 := hby.cells 0 _ rfl
                  have hyl := hby.lt
                  have g1 := HRY.out.2.rk.box.cells 1 _ rfl
                  have gl := HRY.out.2.rk.box.lt
                  have z7 : b5 < wy.heap.size := World.block_lt_of_cell? wy _ e7
                  clear hby q0 q1 q2 hbl e6
                  (refine region_drew_tail 10 (by kernel_rfl) (by kernel_rfl) ?_; simp only [List.take_succ_cons, List.take_zero, List.drop_succ_cons, List.drop_zero]; (repeat (go_big_quiet_step (fail))); refine wpQuiet_nil ?_; rintro _ ⟨nq, rfl⟩)
                  obtain ⟨w9, hrun, hk9, hu9⟩ := (HRY.out.2.next ((Ext.refl wy).drewN nq)).putV HXX.out.2 (by omega) nn
                  have H9 := Lib.hid (And.intro hk9 hu9)
                  clear hk9 hu9
                  go_wp2
                  refine ⟨⟨k + 1, (v.name, nn) :: us2, by omega, by go_num, by simp; omega, Lib.hid ⟨(HC3.out.1.trans (Kb.of_ext (HRY.out.1.drewN nq))).trans H9.out.1, H9.out.2⟩, Lib.hid ?_⟩, by simp [intOf]; omega⟩
                  rw [HP3.out, HXX.out.1, pushA_cons]
                · have hki : ¬ (k : Int) < (n1 : Int) := fun e => hltk (Int.ofNat_lt.1 e)
                  obtain rfl : k = n1 := by omega
                  have HP4 : Hid (us2 = pushA us (inP s.ins r)) := Lib.hid (by
                    rw [HP3.out, HN.out.1, List.drop_length]
                    rfl)
                  have HT3 := Lib.hid (HO.out.2.1.tick (Sr' := [X, K, V, B]) (St' := [X, K, V, B]) HC3.out.1 (by simp; exact HO.out.1.rk.nv) (fun k hk => .inl hk) (fun k hk => .inl hk))
                  have HL3 := Lib.hid HO.out.2.2
                  have h64 : ∀ n, I64 (getV us2 n) := by
                    rw [HP4.out]
                    exact pushA_64 HG.out.1 (inP_64 _ _ HRW.out.2.2.2)
                  have H643 := Lib.hid h64
                  have HGG := Lib.hid HG.out.2
                  have HCB := Lib.hid HC3.out.2
                  clear b1 b2 b4 bl h64 HO HG HC3 HP3 hk hltk
                  obtain ⟨wq2, hwq2⟩ : ∃ x, x = wr := ⟨_, rfl⟩
                  subst hwq2
                  have b1 := HCB.out.box.cells 1 _ rfl
                  have b2 := HCB.out.box.cells 2 _ rfl
                  have bl := HCB.out.box.lt
                  rw [HYV.out] at b1 b2
                  go_upto_region 31 with fail
                  go_loopw [125] (fun i wr2 => ∃ (z : Nat) (us3 : ENV), z ≤ 2 ∧ i = .int .i64 (z : Int) ∧ us3.length + (rowsZ s z).length ≤ 16000 + q * 40000 ∧ Hid (Kb [V] wq2 wr2 ∧ RU w y B X K V (ksP s) us3 wr2) ∧ Hid (pushA us2 (zeroL s) = pushA us3 (rowsZ s z))) (fun i _ => 2 - (intOf i).toNat)
                  case atStart =>
                    refine ⟨0, us2, by omega, rfl, ?_, Lib.hid ⟨Kb.refl _ _, HCB.out⟩, Lib.hid rfl⟩
                    obtain ⟨e1, e2, e3, e4, e5⟩ := HN.out
                    simp [rowsZ, zeroL]
                    omega
                  case round =>
                    obtain ⟨z, us3, hz, rfl, hzl, HC4, HP5⟩ := hrel
                    by_cases hltz : z < 2
                    · have hzi : (z : Int) < 2 := by omega
                      have hkl : ∃ pk ck, (∀ w1, Sem.run Try.prog (Instr.index 66 (.agg #[.slice p2 n2 c2, .slice p3 n3 c3]) (.int .i64 (z : Int))) w1 = .ok (.slice pk (listZ s z).length ck) w1) ∧ VIn w (.slice pk (listZ s z).length ck) (listZ s z) ∧ (listZ s z).length ≤ ck ∧ ck ≤ maxLen ∧ ∀ v ∈ listZ s z, v.name.size ≤ maxLen ∧ I64 v.kind := by
                        have hN := HN.out
                        have hi := fun w1 => index2s (.slice p2 n2 c2) (.slice p3 n3 c3) w1
                        have hsv := HS.out.1
                        rw [HYV.out] at hsv
                        rcases (show z = 0 ∨ z = 1 by omega) with rfl | rfl
                        · have hv1 := hsv.outs
                          rw [hN.2.1] at hv1
                          obtain ⟨a, b, e1, h1, h2⟩ := hv1.slice
                          simp only [Value.slice.injEq] at e1
                          refine ⟨p2, c2, fun w1 => ?_, hv1, by rw [e1.2.2]; exact h1, by rw [e1.2.2]; exact h2, HS.out.2.1.outs⟩
                          rw [show (listZ s 0).length = n2 from hN.2.1.symm]
                          exact (hi w1).1
                        · have hv1 := hsv.vars
                          rw [hN.2.2.1] at hv1
                          obtain ⟨a, b, e1, h1, h2⟩ := hv1.slice
                          simp only [Value.slice.injEq] at e1
                          refine ⟨p3, c3, fun w1 => ?_, hv1, by rw [e1.2.2]; exact h1, by rw [e1.2.2]; exact h2, HS.out.2.1.vars⟩
                          rw [show (listZ s 1).length = n3 from hN.2.2.1.symm]
                          exact (hi w1).2
                      obtain ⟨pk, ck, hidx, hvin, hle, hcm, hnm⟩ := hkl
                      obtain ⟨nk, hnk⟩ : ∃ n, n = (listZ s z).length := ⟨_, rfl⟩
                      rw [← hnk] at hidx hvin hle
                      have hcI : (ck : Int) ≤ 9223372036854775807 := by unfold maxLen at hcm; omega
                      have hRk : Hid (pushA us2 (zeroL s) = pushA us3 (((listZ s z).map fun v => (v.name, (0 : Int))) ++ rowsZ s (z + 1))) := Lib.hid (by rw [HP5.out, rowsZ_step s hltz])
                      have hlk : us3.length + nk + (rowsZ s (z + 1)).length ≤ 16000 + q * 40000 := by
                        have := congrArg List.length (rowsZ_step s hltz)
                        rw [List.length_append, List.length_map, ← hnk] at this
                        omega
                      have HV := Lib.hid (And.intro hvin (And.intro hnm hnk))
                      clear hvin hnm hnk hcm hzl HP5 b1 b2 bl
                      go_wp2
                      go_loopw [130] (fun i wr3 => ∃ (j2 : Nat) (us4 : ENV), j2 ≤ nk ∧ i = .int .i64 (j2 : Int) ∧ us4.length + (nk - j2) + (rowsZ s (z + 1)).length ≤ 16000 + q * 40000 ∧ Hid (Kb [V] wq2 wr3 ∧ RU w y B X K V (ksP s) us4 wr3) ∧ Hid (pushA us2 (zeroL s) = pushA us4 ((((listZ s z).drop j2).map fun v => (v.name, (0 : Int))) ++ rowsZ s (z + 1)))) (fun i _ => nk - (intOf i).toNat)
                      case atStart => exact ⟨0, us3, Nat.zero_le _, rfl, by omega, HC4, Lib.hid (by rw [hRk.out]; rfl)⟩
                      case round =>
                        obtain ⟨j2, us4, hj2, rfl, htl, HC5, HR5⟩ := hrel
                        by_cases hlt2 : j2 < nk
                        · have hkj : (j2 : Int) < (nk : Int) := Int.ofNat_lt.2 hlt2
                          obtain ⟨v, hv⟩ : ∃ v, (listZ s z)[j2]? = some v := ⟨_, List.getElem?_eq_getElem (by have := HV.out.2.2; omega)⟩
                          obtain ⟨bb, oo, pq, nq2, cq, rfl, q0, q1, q2, hbl⟩ := (HV.out.1.ext HC5.out.2.rk.ext).at hv
                          have hsz := (HV.out.2.1 v (List.mem_of_getElem? hv)).1
                          have hjc : j2 < ck := by omega
                          have hls : (listZ s z).drop j2 = v :: (listZ s z).drop (j2 + 1) := by
                            obtain ⟨h1, h2⟩ := List.getElem?_eq_some_iff.1 hv
                            rw [List.drop_eq_getElem_cons h1, h2]
                          have HXX := Lib.hid (And.intro hls hsz)
                          have hby : BoxV wr.heap.size [.string v.name, .int .i64 v.kind, .slice pq nq2 cq] (wr.alloc (.cells #[.string v.name, .int .i64 v.kind, .slice pq nq2 cq] 32)) := BoxV.of_row (heap_alloc_last wr _)
                          have hxy : Ext wr (wr.alloc (.cells #[.string v.name, .int .i64 v.kind, .slice pq nq2 cq] 32)) := (Ext.refl wr).alloc _
                          have HRY := Lib.hid (And.intro hxy (HC5.out.2.next hxy))
                          clear hv hls hsz hxy
                          go_upto_region 36 with fail
                          generalize (wr.alloc (.cells #[.string v.name, .int .i64 v.kind, .slice pq nq2 cq] 32)) = wy at hby HRY ⊢
                          generalize wr.heap.size = Y at hby ⊢
                          have d0 := hby.cells 0 _ rfl
                          have hyl := hby.lt
                          have g1 := HRY.out.2.rk.box.cells 1 _ rfl
                          have gl := HRY.out.2.rk.box.lt
                          clear hby q0 q1 q2 hbl
                          (refine region_drew_tail 6 (by kernel_rfl) (by kernel_rfl) ?_; simp only [List.take_succ_cons, List.take_zero, List.drop_succ_cons, List.drop_zero]; (repeat (go_big_quiet_step (fail))); refine wpQuiet_nil ?_; rintro _ ⟨nq, rfl⟩)
                          obtain ⟨w9, hrun, hk9, hu9⟩ := (HRY.out.2.next ((Ext.refl wy).drewN nq)).putV HXX.out.2 (by omega) 0
                          have H9 := Lib.hid (And.intro hk9 hu9)
                          clear hk9 hu9
                          go_wp2
                          refine ⟨⟨j2 + 1, (v.name, 0) :: us4, by omega, by go_num, by simp; omega, Lib.hid ⟨(HC5.out.1.trans (Kb.of_ext (HRY.out.1.drewN nq))).trans H9.out.1, H9.out.2⟩, Lib.hid ?_⟩, by simp [intOf]; omega⟩
                          rw [HR5.out, HXX.out.1, List.map_cons, List.cons_append, pushA_cons]
                        · have hkj : ¬ (j2 : Int) < (nk : Int) := fun e => hlt2 (Int.ofNat_lt.1 e)
                          obtain rfl : j2 = nk := by omega
                          have H3 : Hid (pushA us2 (zeroL s) = pushA us4 (rowsZ s (z + 1))) := Lib.hid (by
                            rw [HR5.out, HV.out.2.2, List.drop_length]; rfl)
                          go_wp2
                          exact ⟨⟨z + 1, us4, by omega, by go_num, by omega, HC5, H3⟩, by simp [intOf]; omega⟩
                    · have hzi : ¬ (z : Int) < 2 := by omega
                      obtain rfl : z = 2 := by omega
                      have HP6 : Hid (us3 = pushA us2 (zeroL s)) := Lib.hid HP5.out.symm
                      have h64 : ∀ n, I64 (getV us3 n) := by
                        rw [HP6.out]
                        refine pushA_64 H643.out (fun e he => ?_)
                        unfold zeroL at he
                        simp only [List.mem_append, List.mem_map] at he
                        rcases he with ⟨v, hv, rfl⟩ | ⟨v, hv, rfl⟩ <;> exact zero_64
                      have hl3 : us3.length ≤ 16000 + q * 40000 := by omega
                      obtain ⟨T, hT⟩ : ∃ T, T = doL (ksP s) s.body us3 := ⟨_, rfl⟩
                      have hinv := doL_inv (ksP s) s.body us3 HRP.out.1 h64
                      rw [← hT] at hinv
                      have HTI : Hid ((∀ n, I64 (getV T n)) ∧ T.length ≤ 8000 + (q + 1) * 40000) := Lib.hid ⟨hinv.1, by have := hinv.2; have := HRP.out.2; omega⟩
                      have HTP : Hid (tickP s us r = T) := Lib.hid (by unfold tickP; rw [hT, HP6.out, HP4.out])
                      have HALL : Hid (Calls Try.prog 22 #[.pointer (some ⟨X, 0, none⟩), .slice p5 n5 c5] wr (RetD w X K V (ksP s) T wr)) := Lib.hid (by
                        have hbi := HS.out.1.body
                        rw [HYV.out] at hbi
                        rw [hT]
                        exact all_at w X K V (ksP s) _ s.body (Nat.lt_succ_self _) _ us3 wr h64 (by have := HRP.out.2; omega) HC4.out.2.rk hbi HRP.out.1)
                      have b4 := HC4.out.2.box.cells 4 _ rfl
                      have b1 := HC4.out.2.box.cells 1 _ rfl
                      have bl := HC4.out.2.box.lt
                      rw [HYV.out] at b4 b1
                      have HBV : Hid (B ∉ [V]) := Lib.hid (by simpa using HC4.out.2.bv)
                      obtain ⟨wq3, hwq3⟩ : ∃ x, x = wr := ⟨_, rfl⟩
                      subst hwq3
                      clear hinv hT h64 hz hzl HP5 hltz HP6
                      go_upto_region 42 with (first | (go_at_call 22; refine HALL.out.mono ?_; rintro e1 w5 ⟨rfl, H5⟩; have b1 := H5.out.1.cell HBV.out b1; have bl := Nat.lt_of_lt_of_le bl H5.out.1.size) | fail)
                      have HRU5 : Hid (RU w y B X K V (ksP s) T w5) := Lib.hid ⟨H5.out.2, HC4.out.2.box.kb H5.out.1 HBV.out, HC4.out.2.bk, HC4.out.2.bv⟩
                      have HT5 := Lib.hid (HT3.out.tick (Sr' := [X, K, V, B]) (St' := [X, K, V, B]) (HC4.out.1.trans H5.out.1) (by simp; exact HRU5.out.rk.nv) (fun k hk => .inl hk) (fun k hk => .inl hk))
                      have HVL : Hid (V < w5.heap.size) := Lib.hid HRU5.out.rk.vmap.lt
                      clear b4 b1 bl
                      go_loopw [23, 149] (fun o i wr2 => ∃ (z : Nat) (p8 : Option Addr) (c8 : Nat), z ≤ n2 ∧ i = .int .i64 (z : Int) ∧ o = .slice p8 z c8 ∧ Hid (Ext w5 wr2 ∧ wr2.ownsRow w5.heap.size 3 1 (.slice p8 z c8) z (i64s ((s.outs.take z).map fun v => getV T v.name)))) (fun _ i _ => n2 - (intOf i).toNat)
                      case atStart => exact ⟨0, none, 0, Nat.zero_le _, rfl, rfl, Lib.hid ⟨Ext.refl _, own_nil _ _ _ _⟩⟩
                      case round =>
                        obtain ⟨z, p8, c8, hz, rfl, rfl, HC6⟩ := hrel
                        by_cases hltz : z < n2
                        · have hzi : (z : Int) < (n2 : Int) := Int.ofNat_lt.2 hltz
                          obtain ⟨v, hv⟩ : ∃ v, s.outs[z]? = some v := ⟨_, List.getElem?_eq_getElem (by have := HN.out.2.1; omega)⟩
                          have hin := (HS.out.1.outs).ext (HRU5.out.rk.ext.trans HC6.out.1)
                          rw [HYV.out] at hin
                          obtain ⟨bb, oo, pq, nq2, cq, rfl, q0, q1, q2, hbl⟩ := hin.at hv
                          have hsz := (HS.out.2.1.outs v (List.mem_of_getElem? hv)).1
                          have hjc : z < c2 := by omega
                          have hby : BoxV wr.heap.size [.string v.name, .int .i64 v.kind, .slice pq nq2 cq] (wr.alloc (.cells #[.string v.name, .int .i64 v.kind, .slice pq nq2 cq] 32)) := BoxV.of_row (heap_alloc_last wr _)
                          have hxy : Ext w5 (wr.alloc (.cells #[.string v.name, .int .i64 v.kind, .slice pq nq2 cq] 32)) := HC6.out.1.alloc _
                          have hoy : (wr.alloc (.cells #[.string v.name, .int .i64 v.kind, .slice pq nq2 cq] 32)).ownsRow w5.heap.size 3 1 (.slice p8 z c8) z (i64s ((s.outs.take z).map fun v => getV T v.name)) := HC6.out.2.alloc _
                          have HRY := Lib.hid (And.intro hxy (HRU5.out.next hxy))
                          have HOY := Lib.hid hoy
                          have HYO : Hid (∀ g, (Value.slice p8 z c8).ownBlock = some g → g < wr.heap.size) := Lib.hid (fun g hg => (HC6.out.2.lt g hg).2)
                          have HXX := Lib.hid (And.intro hv hsz)
                          clear hv hin hsz hxy hoy
                          go_upto_region 44 with fail
                          generalize (wr.alloc (.cells #[.string v.name, .int .i64 v.kind, .slice pq nq2 cq] 32)) = wy at hby HRY HOY ⊢
                          generalize wr.heap.size = Y at hby HYO ⊢
                          have d0 := hby.cells 0 _ rfl
                          have hyl := hby.lt
                          have g1 := HRY.out.2.rk.box.cells 1 _ rfl
                          have gl := HRY.out.2.rk.box.lt
                          obtain ⟨gv, hgv⟩ : ∃ x, x = getV T v.name := ⟨_, rfl⟩
                          have hlk : (Instr.lookup 62 (.map (some V)) (.string v.name) false).run Try.prog wy.drew = .ok (.int .i64 gv) wy.drew := by
                            rw [hgv]; exact (HRY.out.2.next (Ext.refl wy).drew).rk.lookV HXX.out.2
                          have HGV := Lib.hid hgv
                          clear hby q0 q1 q2 hbl hgv
                          have hzb : z ≤ 8000 := by omega
                          have hsw : w5.heap.size ≤ wy.heap.size := HRY.out.1.size
                          have HSB : Hid (∀ w', Ext wy w' → w'.cell? ⟨X, 1, none⟩ = some (.map (some V)) ∧ w'.cell? ⟨Y, 0, none⟩ = some (.string v.name)) := Lib.hid (fun w' hx => ⟨hx.cell g1, hx.cell d0⟩)
                          have HSK : Hid (∀ w', Kb (Value.ownBlock (.slice p8 z c8)).toList wy w' → w'.cell? ⟨X, 1, none⟩ = some (.map (some V)) ∧ w'.cell? ⟨Y, 0, none⟩ = some (.string v.name)) := Lib.hid (fun w' hk => by
                            refine ⟨hk.cell (fun hm => ?_) g1, hk.cell (fun hm => ?_) d0⟩
                            · have h1 := (HOY.out.lt X (Option.mem_toList.1 hm)).1
                              have h2 := HRU5.out.rk.box.lt
                              omega
                            · exact absurd (HYO.out Y (Option.mem_toList.1 hm)) (Nat.lt_irrefl _))
                          go_region_held3 (fun w' => w'.cell? ⟨X, 1, none⟩ = some (.map (some V)) ∧ w'.cell? ⟨Y, 0, none⟩ = some (.string v.name))
                            (first | exact hq9 | exact HSB.out _ (by repeat first | exact Ext.refl _ | assumption | refine Ext.drew ?_ | refine Ext.drewN ?_ _ | refine Ext.extBy ?_ _ | refine Ext.alloc ?_ _ | refine Ext.setCell ?_ (by simp; try omega) _ | (refine Ext.trans ?_ (by assumption))))
                            (first
                              | (refine step_append_slc _ rfl (.tmp 153) (.tmp 161) 23 rfl w5.heap.size 3 (.int .i64 0) 1 8 Try.underlying23 infoInt rfl (by decide) (.slice p8 z c8) z (i64s ((s.outs.take z).map fun v => getV T v.name)) rfl (ownsRow_ext HOY.out (by repeat first | exact Ext.refl _ | assumption | refine Ext.drew ?_ | refine Ext.drewN ?_ _ | refine Ext.extBy ?_ _ | refine Ext.alloc ?_ _ | refine Ext.setCell ?_ (by simp; try omega) _ | (refine Ext.trans ?_ (by assumption)))) _ 1 [.int .i64 gv] rfl (SlC.fresh _ #[.int .i64 gv] _ 1 _ (by simp) (by decide)) rfl (by simp [Value.oneCell']) (by unfold maxLen; omega) (by omega) (by simp; omega) ?_; intro v9 w9 hown9 hg9 hat9; obtain ⟨x9, y9, z9, rfl⟩ := own_slice3 hown9; have hk9 : Kb (Value.ownBlock (.slice p8 z c8)).toList wy w9 := (Kb.of_ext (show Ext wy (wy.drew.alloc (.cells #[.int .i64 gv] 3)) from (Ext.refl wy).drew.alloc _)).trans (Kb.grown hg9 (fun g hg => Option.mem_toList.2 hg)); have hq9 := HSK.out _ hk9; have HP := Lib.hid (And.intro hown9 hk9); clear hown9 hg9 hat9 hk9))
                          all_goals go_wp2
                          have hx9 : Ext w5 w9 := HP.out.2.ext HRY.out.1 (fun g hg => (HOY.out.lt g (Option.mem_toList.1 hg)).1)
                          have hy : y9 = z + 1 := by
                            obtain ⟨a', c', e, -⟩ := SlC.of_owns HP.out.1
                            simp at e
                            exact e.2.1
                          subst hy
                          refine ⟨⟨z + 1, x9, z9, by omega, by go_num, rfl, Lib.hid ⟨hx9, ?_⟩⟩, by simp [intOf]; omega⟩
                          have h1 := HP.out.1
                          rw [List.take_add_one, HXX.out.1, Option.toList_some, List.map_append, List.map_cons, List.map_nil, ← HGV.out]
                          unfold i64s at h1 ⊢
                          rw [List.map_append]
                          exact h1
                        · have hzi : ¬ (z : Int) < (n2 : Int) := fun e => hltz (Int.ofNat_lt.1 e)
                          obtain rfl : z = n2 := by omega
                          have HOW : Hid (wr.ownsRow w5.heap.size 3 1 (.slice p8 z c8) (s.outs.map fun v => getV T v.name).length (i64s (s.outs.map fun v => getV T v.name))) := Lib.hid (by
                            have h1 := HC6.out.2
                            rw [HN.out.2.1, List.take_length] at h1
                            rw [List.length_map, HN.out.2.1]
                            exact h1)
                          have HT6 := Lib.hid (HT5.out.tick (Sr' := [X, K, V, B]) (St' := [X, K, V, B]) (Kb.of_ext HC6.out.1 (S := [])) (by simp) (fun k hk => .inl hk) (fun k hk => .inl hk))
                          have HRU6 := Lib.hid (HRU5.out.next HC6.out.1)
                          have hqb : q ≤ 1000 := by omega
                          have hsw : w.heap.size ≤ wr.heap.size := HRU6.out.rk.ext.size
                          have HBS : Hid (w.heap.size ≤ w5.heap.size) := Lib.hid HRU5.out.rk.ext.size
                          clear hzi hltz hz hqi
                          go_wp2_with (at_builtin; (refine wpList_append_slc _ rfl (.tmp 164) (.tmp 166) 46 rfl w.heap.size 23 (.slice none 0 0) 1 24 Try.underlying46 infoInts rfl (by decide) (.slice p9 q c9) xs.length xs rfl (ownsRow_ext HT6.out.top (by repeat first | exact Ext.refl _ | assumption | refine Ext.drew ?_ | refine Ext.drewN ?_ _ | refine Ext.extBy ?_ _ | refine Ext.alloc ?_ _ | refine Ext.setCell ?_ (by simp; try omega) _ | (refine Ext.trans ?_ (by assumption)))) _ 1 [.slice p8 z c8] rfl (SlC.fresh _ #[.slice p8 z c8] _ 1 _ (by simp) (by decide)) rfl (by simp [Value.oneCell']) (by have := HL3.out; unfold maxLen; omega) (by have := HL3.out; omega) (by simp; omega) ?_; intro v9 w9 hown9 hg9 hat9; obtain ⟨x9, y9, z9, rfl⟩ := own_slice3 hown9; have HP := Lib.hid (And.intro hown9 (And.intro hg9 hat9)); clear hown9 hg9 hat9))
                          have hpush := HT6.out.push (B := w5.heap.size) HOW.out HBS.out (fun b hb => ⟨fun hs => by
                            have h1 := (HOW.out.lt b hb).1
                            have h2 := HRU5.out.lt4 b hs
                            omega, fun e => by
                            have h1 := (HOW.out.lt b hb).1
                            have h2 := (HT5.out.top.lt b e).2
                            omega⟩) HRU6.out.lt4 HRU6.out.lt4 HP.out.2.1 (by
                            have h1 := HP.out.1
                            exact h1) HP.out.2.2
                          have hy : y9 = q + 1 := by
                            obtain ⟨a', c', e, -⟩ := SlC.of_owns HP.out.1
                            simp at e
                            rw [e.2.1, HL3.out]
                          subst hy
                          have hoff : ∀ k ∈ [X, K, V, B], k ∉ (Value.ownBlock (.slice p9 q c9)).toList := fun k hk hm => HT6.out.off k (Option.mem_toList.1 hm) hk
                          have hru9 := HRU6.out.kb hpush.2 ⟨hoff X (by simp), hoff K (by simp), hoff V (by simp), hoff B (by simp)⟩ (fun k hk => (HT6.out.top.lt k (Option.mem_toList.1 hk)).1)
                          refine ⟨⟨q + 1, T, x9, z9, xs ++ [.slice p8 z c8], os ++ [s.outs.map fun v => getV T v.name], by omega, by go_num, rfl, HTI.out.2, Lib.hid ⟨hru9, hpush.1, by simp [HL3.out]⟩, Lib.hid ⟨HTI.out.1, ?_⟩⟩, by simp [intOf]; omega⟩
                          rw [HGG.out, goT_step HRW.out.1, HTP.out]
                          simp
            · have hqi : ¬ (q : Int) < (nr : Int) := fun e => hltq (Int.ofNat_lt.1 e)
              obtain rfl : q = nr := by omega
              go_wp2
              rw [HQ.out]
              refine RunP.yes (os := goT s (csP s) rs) (vs := xs) HC.out ?_ HO.out.1.rk.ext
              have h1 := HG.out.2
              rw [HNR.out.1, List.drop_length] at h1
              rw [h1]
              have h2 := HO.out.2.1.rows
              simpa [goT] using h2
end Go.Proofs.Ytkjgghbdpmkmoaa
namespace Go.Proofs.Ytkjgghbdpmkmoaa
open Go.RowKit Go.Maps
set_option linter.unusedSimpArgs false
set_option linter.unusedVariables false
set_option maxRecDepth 100000

def lenE1 (n : Int) (_ : CE) : Int × Bool := (wrap64 (n + 1), true)
def lenS1 (n : Int) (s : ST) : Int × Bool := gpE lenE1 s.e (wrap64 (n + 1))
def lenP (l : List ST) : Int := (goL lenS1 l 0).1
/-- The counter's box. -/
def StN (N : Nat) (n : Int) (w : World) : Prop := BoxV N [.int .i64 n] w
set_option maxHeartbeats 4000000 in
theorem len11_any (N : Nat) (n : Int) (w : World) (e : CE) (kv : Value) (hk : KIn w e kv) (hst : StN N n w) :
    Calls Try.prog 26 #[eVal e kv, .pointer (some ⟨N, 0, none⟩)] w (RetB [N] (StN N) (lenE1 n e) w) := by
  obtain ⟨R, hR⟩ : ∃ R, R = lenE1 n e := ⟨_, rfl⟩
  rw [← hR]
  obtain ⟨Q, hQ⟩ : ∃ Q, Q = RetB [N] (StN N) R w := ⟨_, rfl⟩
  rw [← hQ]
  have HQ := Lib.hid hQ
  have HR := Lib.hid hR
  obtain ⟨n0, hn0⟩ : ∃ z, z = n := ⟨_, rfl⟩
  rw [← hn0] at hst hR HR
  obtain ⟨p, c, rfl, hkc, hcm⟩ := hk.slice
  obtain ⟨n, hn⟩ : ∃ n, n = e.kids.length := ⟨_, rfl⟩
  rw [← hn]
  obtain ⟨f, hf⟩ : ∃ f, f = e.form := ⟨_, rfl⟩
  obtain ⟨sb, hs⟩ : ∃ s, s = e.sub := ⟨_, rfl⟩
  obtain ⟨k, hk2⟩ : ∃ s, s = e.kind := ⟨_, rfl⟩
  obtain ⟨nn, hnn⟩ : ∃ s, s = e.n := ⟨_, rfl⟩
  obtain ⟨nm, hnm⟩ : ∃ s, s = e.name := ⟨_, rfl⟩
  have HE := Lib.hid (show eVal e (.slice p n c) = .agg #[.int .i64 f, .int .i64 sb, .int .i64 k, .int .i64 nn, .string nm, .slice p n c] by rw [hf, hs, hk2, hnn, hnm]; rfl)
  rw [HE.out]
  have HL := Lib.hid (And.intro hf (And.intro hs (And.intro hk2 (And.intro hnn (And.intro hnm hn)))))
  have hby : BoxV w.heap.size [.int .i64 f, .int .i64 sb, .int .i64 k, .int .i64 nn, .string nm, .slice p n c] (w.alloc (.cells #[.int .i64 f, .int .i64 sb, .int .i64 k, .int .i64 nn, .string nm, .slice p n c] 35)) := BoxV.of_row (heap_alloc_last w _)
  have hxy : Ext w (w.alloc (.cells #[.int .i64 f, .int .i64 sb, .int .i64 k, .int .i64 nn, .string nm, .slice p n c] 35)) := (Ext.refl w).alloc _
  have HXY := Lib.hid hxy
  have hst2 : StN N n0 (w.alloc (.cells #[.int .i64 f, .int .i64 sb, .int .i64 k, .int .i64 nn, .string nm, .slice p n c] 35)) := hst.ext hxy
  have b0 := hst2.cells 0 _ rfl
  have bf := hst2.fz 0
  have bl := hst2.lt
  have HZ := Lib.hid (And.intro (hst2.put 0 (.int .i64 (wrap64 (n0 + 1)))) (Kb.set (S := [N]) (w.alloc (.cells #[.int .i64 f, .int .i64 sb, .int .i64 k, .int .i64 nn, .string nm, .slice p n c] 35)) N 0 (by simp) (.int .i64 (wrap64 (n0 + 1)))))
  clear hQ hR hk hn hf hs hk2 hnn hnm hkc hcm hst hst2 hby hxy hn0
  go_enter Try.func26, Try.ntmps26
  go_upto_region 1 with fail
  generalize (w.alloc (.cells #[.int .i64 f, .int .i64 sb, .int .i64 k, .int .i64 nn, .string nm, .slice p n c] 35)) = wy at HXY HZ b0 bf bl ⊢
  go_wp2
  rw [HQ.out, HR.out]
  exact ⟨rfl, Lib.hid ⟨(Kb.of_ext HXY.out).trans HZ.out.2, HZ.out.1⟩⟩
theorem clo_len11 (W0 : World) (N : Nat) (h : W0.heap.size ≤ N) : CloP W0 [N] (StN N) lenE1 26 #[.pointer (some ⟨N, 0, none⟩)] where
  st := fun _ _ _ h hx => BoxV.ext h hx
  off := by simpa using h
  lts := fun _ _ h => by simpa using h.lt
  enter := fun args w => by kernel_rfl
  call := fun n w e kv hx hst hk _ => len11_any N n w e kv (KIn.ext hx e kv hk) hst
set_option maxHeartbeats 4000000 in
theorem len1_any (W0 : World) (N : Nat) (hN : W0.heap.size ≤ N) (n : Int) (w : World) (hx : Ext W0 w) (s : ST) (x : S3) (hs : SIn W0 s x) (hst : StN N n w) (hok : okS s) :
    Calls Try.prog 24 #[sVal s x, .pointer (some ⟨N, 0, none⟩)] w (RetB [N] (StN N) (lenS1 n s) w) := by
  obtain ⟨R, hR⟩ : ∃ R, R = lenS1 n s := ⟨_, rfl⟩
  rw [← hR]
  obtain ⟨Q, hQ⟩ : ∃ Q, Q = RetB [N] (StN N) R w := ⟨_, rfl⟩
  rw [← hQ]
  have HQ := Lib.hid hQ
  have HR := Lib.hid hR
  obtain ⟨hp1, hp2, hp3⟩ := hs.parts
  obtain ⟨kv, tv, ev⟩ := x
  obtain ⟨pk, ck, e1, -, -⟩ := hp1.slice
  obtain ⟨pt, ct, e2, -, -⟩ := hp2.slice
  obtain ⟨pe, ce, e3, -, -⟩ := hp3.slice
  simp only at e1 e2 e3
  subst e1
  subst e2
  subst e3
  obtain ⟨f, hf⟩ : ∃ f, f = s.form := ⟨_, rfl⟩
  obtain ⟨nk, hnk⟩ : ∃ f, f = s.e.kids.length := ⟨_, rfl⟩
  obtain ⟨nt, hnt⟩ : ∃ f, f = s.thn.length := ⟨_, rfl⟩
  obtain ⟨ne, hne⟩ : ∃ f, f = s.els.length := ⟨_, rfl⟩
  have HV := Lib.hid (show sVal s ⟨.slice pk s.e.kids.length ck, .slice pt s.thn.length ct, .slice pe s.els.length ce⟩ = .agg #[.int .i64 f, .string s.name, .int .i64 s.e.form, .int .i64 s.e.sub, .int .i64 s.e.kind, .int .i64 s.e.n, .string s.e.name, .slice pk nk ck, .slice pt nt ct, .slice pe ne ce] by rw [hf, hnk, hnt, hne]; rfl)
  have HE := Lib.hid (show eVal s.e (.slice pk s.e.kids.length ck) = .agg #[.int .i64 s.e.form, .int .i64 s.e.sub, .int .i64 s.e.kind, .int .i64 s.e.n, .string s.e.name, .slice pk nk ck] by rw [hnk]; rfl)
  rw [HV.out]
  have HF := Lib.hid hf
  have hby : BoxV w.heap.size [.int .i64 f, .string s.name, .int .i64 s.e.form, .int .i64 s.e.sub, .int .i64 s.e.kind, .int .i64 s.e.n, .string s.e.name, .slice pk nk ck, .slice pt nt ct, .slice pe ne ce] (w.alloc (.cells #[.int .i64 f, .string s.name, .int .i64 s.e.form, .int .i64 s.e.sub, .int .i64 s.e.kind, .int .i64 s.e.n, .string s.e.name, .slice pk nk ck, .slice pt nt ct, .slice pe ne ce] 37)) := BoxV.of_row (heap_alloc_last w _)
  have hxy : Ext w (w.alloc (.cells #[.int .i64 f, .string s.name, .int .i64 s.e.form, .int .i64 s.e.sub, .int .i64 s.e.kind, .int .i64 s.e.n, .string s.e.name, .slice pk nk ck, .slice pt nt ct, .slice pe ne ce] 37)) := (Ext.refl w).alloc _
  have HXY := Lib.hid hxy
  have HP1 := Lib.hid hp1
  have hst2 : StN N n (w.alloc (.cells #[.int .i64 f, .string s.name, .int .i64 s.e.form, .int .i64 s.e.sub, .int .i64 s.e.kind, .int .i64 s.e.n, .string s.e.name, .slice pk nk ck, .slice pt nt ct, .slice pe ne ce] 37)) := hst.ext hxy
  have b0 := hst2.cells 0 _ rfl
  have bf := hst2.fz 0
  have bl := hst2.lt
  have hYN : w.heap.size ≠ N := fun e => absurd hst.lt (by rw [e]; exact Nat.lt_irrefl _)
  have hb7 := hby.other (Ne.symm hYN) 0 (.int .i64 (wrap64 (n + 1)))
  have hz := And.intro (hst2.put 0 (.int .i64 (wrap64 (n + 1)))) (Kb.set (S := [N]) (w.alloc (.cells #[.int .i64 f, .string s.name, .int .i64 s.e.form, .int .i64 s.e.sub, .int .i64 s.e.kind, .int .i64 s.e.n, .string s.e.name, .slice pk nk ck, .slice pt nt ct, .slice pe ne ce] 37)) N 0 (by simp) (.int .i64 (wrap64 (n + 1))))
  have HZ := Lib.hid (And.intro hz hb7)
  have HP : Hid (∀ w1, Ext W0 w1 → StN N (wrap64 (n + 1)) w1 → Calls Try.prog 25 #[.agg #[.int .i64 s.e.form, .int .i64 s.e.sub, .int .i64 s.e.kind, .int .i64 s.e.n, .string s.e.name, .slice pk nk ck], .func (.func 26) #[] #[.pointer (some ⟨N, 0, none⟩)]] w1 (RetB [N] (StN N) R w1)) := Lib.hid (fun w1 hx1 h1 => by
    rw [hR, ← HE.out]
    exact parts_any (clo_len11 W0 N hN) hx1 h1 hp1 hok.parts.2.2.1)
  have HW := Lib.hid (And.intro hx hN)
  clear hQ hR hp1 hp2 hp3 hf hnk hnt hne hs hst hst2 hok hYN hb7 hz hx hN
  go_enter Try.func24, Try.ntmps24
  go_upto_region 1 with fail
  generalize (w.alloc (.cells #[.int .i64 f, .string s.name, .int .i64 s.e.form, .int .i64 s.e.sub, .int .i64 s.e.kind, .int .i64 s.e.n, .string s.e.name, .slice pk nk ck, .slice pt nt ct, .slice pe ne ce] 37)) = wy at hby hxy HXY HZ b0 bf bl ⊢
  generalize w.heap.size = Y at hby HZ ⊢
  clear hby hxy
  go_upto_region 2 with fail
  obtain ⟨⟨hz1, hz2⟩, hb7⟩ := HZ.out
  clear HZ
  generalize wy.setCell ⟨N, 0, none⟩ (.int .i64 (wrap64 (n + 1))) = w7 at hz1 hz2 hb7 ⊢
  have d2 := hb7.cells 2 _ rfl
  have d3 := hb7.cells 3 _ rfl
  have d4 := hb7.cells 4 _ rfl
  have d5 := hb7.cells 5 _ rfl
  have d6 := hb7.cells 6 _ rfl
  have d7 := hb7.cells 7 _ rfl
  have hyl := hb7.lt
  have HP2 := Lib.hid (HP.out w7 (hz2.ext (HW.out.1.trans HXY.out) (by simpa using HW.out.2)) hz1)
  have HZ2 := Lib.hid hz2
  clear hz1 hz2 hb7
  rcases R with ⟨m, b⟩
  go_wp2_with (first | (go_at_call 25; refine HP2.out.mono ?_; rintro e1 w1 ⟨rfl, H1⟩) | fail)
  rw [HQ.out]
  exact ⟨rfl, Lib.hid ⟨((Kb.of_ext HXY.out).trans HZ2.out).trans H1.out.1, H1.out.2⟩⟩
theorem clo_len1 (W0 : World) (N : Nat) (h : W0.heap.size ≤ N) : CloS W0 [N] (StN N) lenS1 24 #[.pointer (some ⟨N, 0, none⟩)] where
  st := fun _ _ _ h hx => BoxV.ext h hx
  off := by simpa using h
  lts := fun _ _ h => by simpa using h.lt
  enter := fun args w => by kernel_rfl
  call := fun n w s sx hx hst hs hok => len1_any W0 N h n w hx s sx hs hst hok
set_option maxHeartbeats 4000000 in
theorem size_all (s : SP) (x : S5) (w : World) (hs : SPIn w s x) (hok : okP s) :
    Calls Try.prog 13 #[.agg #[x.iv, x.ov, x.vv, x.cv, x.bv]] w (fun e w' => e = .returned (.int .i64 (lenP s.body)) ∧ Hid (Ext w w')) := by
  obtain ⟨R, hR⟩ : ∃ R, R = lenP s.body := ⟨_, rfl⟩
  rw [← hR]
  obtain ⟨Q, hQ⟩ : ∃ Q : Ending → World → Prop, Q = (fun e w' => e = .returned (.int .i64 R) ∧ Hid (Ext w w')) := ⟨_, rfl⟩
  rw [← hQ]
  have HQ := Lib.hid hQ
  obtain ⟨iv, ov, vv, cv, bv⟩ := x
  obtain ⟨p1, c1, e1, -, -⟩ := hs.ins.slice
  obtain ⟨p2, c2, e2, -, -⟩ := hs.outs.slice
  obtain ⟨p3, c3, e3, -, -⟩ := hs.vars.slice
  obtain ⟨p4, c4, e4, -, -⟩ := hs.cells.slice
  obtain ⟨p5, c5, e5, -, -⟩ := hs.body.slice
  simp only at e1 e2 e3 e4 e5
  subst e1 e2 e3 e4 e5
  obtain ⟨n1, h1⟩ : ∃ n, n = s.ins.length := ⟨_, rfl⟩
  obtain ⟨n2, h2⟩ : ∃ n, n = s.outs.length := ⟨_, rfl⟩
  obtain ⟨n3, h3⟩ : ∃ n, n = s.vars.length := ⟨_, rfl⟩
  obtain ⟨n4, h4⟩ : ∃ n, n = s.cells.length := ⟨_, rfl⟩
  obtain ⟨n5, h5⟩ : ∃ n, n = s.body.length := ⟨_, rfl⟩
  have hbin : BIn w (.slice p5 n5 c5) s.body := by rw [h5]; exact hs.body
  simp only [← h1, ← h2, ← h3, ← h4, ← h5]
  have hx1 : Ext w (w.alloc (.cells #[.slice p1 n1 c1, .slice p2 n2 c2, .slice p3 n3 c3, .slice p4 n4 c4, .slice p5 n5 c5] 28)) := (Ext.refl w).alloc _
  have hs1 : (w.alloc (.cells #[.slice p1 n1 c1, .slice p2 n2 c2, .slice p3 n3 c3, .slice p4 n4 c4, .slice p5 n5 c5] 28)).heap.size = w.heap.size + 1 := by simp
  have hb1 : BoxV w.heap.size [.slice p1 n1 c1, .slice p2 n2 c2, .slice p3 n3 c3, .slice p4 n4 c4, .slice p5 n5 c5] (w.alloc (.cells #[.slice p1 n1 c1, .slice p2 n2 c2, .slice p3 n3 c3, .slice p4 n4 c4, .slice p5 n5 c5] 28)) := BoxV.of_row (heap_alloc_last w _)
  have hle : w.heap.size ≤ w.heap.size := Nat.le_refl _
  have HB := Lib.hid (And.intro hbin (And.intro hok.body hR))
  clear hQ hR hs hok h1 h2 h3 h4 h5 hbin
  go_enter Try.func13, Try.ntmps13
  go_upto_region 1 with fail
  generalize (w.alloc (.cells #[.slice p1 n1 c1, .slice p2 n2 c2, .slice p3 n3 c3, .slice p4 n4 c4, .slice p5 n5 c5] 28)) = wy at hx1 hs1 hb1 ⊢
  generalize hY : w.heap.size = Y at hs1 hb1 hle ⊢
  have hb2 : BoxV wy.heap.size [.int .i64 0] (wy.alloc (.cells #[.int .i64 0] 3)) := BoxV.of_row (heap_alloc_last wy _)
  have hx2 : Ext wy (wy.alloc (.cells #[.int .i64 0] 3)) := (Ext.refl wy).alloc _
  have d4 := (hb1.ext hx2).cells 4 _ rfl
  have dl := (hb1.ext hx2).lt
  have HF : Hid (Calls Try.prog 23 #[.slice p5 n5 c5, .func (.func 24) #[] #[.pointer (some ⟨wy.heap.size, 0, none⟩)]] (wy.alloc (.cells #[.int .i64 0] 3)) (RetB [wy.heap.size] (StN wy.heap.size) (goL lenS1 s.body 0) (wy.alloc (.cells #[.int .i64 0] 3)))) := Lib.hid
    (each_any (clo_len1 w wy.heap.size (by omega)) (hx1.trans hx2) hb2 HB.out.1 HB.out.2.1)
  have HN : Hid (w.heap.size ≤ wy.heap.size) := Lib.hid (by omega)
  have HX := Lib.hid (hx1.trans hx2)
  obtain ⟨r, hr⟩ : ∃ r, r = goL lenS1 s.body 0 := ⟨_, rfl⟩
  rw [← hr] at HF
  have hrR : R = r.1 := by rw [hr]; exact HB.out.2.2
  rcases r with ⟨m, b⟩
  simp only at hrR
  subst hrR
  clear hr hb2 hx2 hx1 hs1 hb1 hle hY
  go_upto_region 2 with fail
  generalize (wy.alloc (.cells #[.int .i64 0] 3)) = wz at d4 dl HF HX ⊢
  generalize wy.heap.size = N at HF HN ⊢
  go_wp2_with (first | (go_at_call 23; refine HF.out.mono ?_; rintro e1 w1 ⟨rfl, H1⟩; have z0 := H1.out.2.cells 0 _ rfl; have zl := H1.out.2.lt) | fail)
  rw [HQ.out]
  exact ⟨rfl, Lib.hid (H1.out.1.ext HX.out (by simpa using HN.out))⟩
end Go.Proofs.Ytkjgghbdpmkmoaa
namespace Go.Proofs.Ytkjgghbdpmkmoaa
open Go.RowKit
set_option linter.unusedSimpArgs false
set_option linter.unusedVariables false
set_option maxRecDepth 100000

set_option maxHeartbeats 2000000 in
theorem sameRows_any {v v2 : Value} {vs vs2 : List Value} {rs : List (List Int)} {w : World} (h : RowsIn w v vs rs) (h2 : RowsIn w v2 vs2 rs) :
    Calls Try.prog 11 #[v, v2] w fun e w' => e = .returned (.bool true) ∧ Ext w w' := by
  have HR := Lib.hid h
  have HR2 := Lib.hid h2
  obtain ⟨a, cap, rfl, hn1, hn2, hc⟩ := id h.top
  obtain ⟨a2, cap2, rfl, hm1, hm2, hc2⟩ := id h2.top
  have HT := Lib.hid hc
  have HT2 := Lib.hid hc2
  have hw := nat64 hn1 hn2
  have hw2 := nat64 hm1 hm2
  obtain ⟨n, hn⟩ : ∃ n, n = rs.length := ⟨_, rfl⟩
  rw [← hn] at hn1 hw hm1 hw2 ⊢
  have HN := Lib.hid hn
  have hnm : n ≤ 9223372036854775807 := Nat.le_trans hn1 hn2
  clear hn hc hc2 h h2 hn1 hn2 hm1 hm2
  go_enter Try.func11, Try.ntmps11
  go_wp2
  go_loopw [5] (fun i wr => ∃ j : Nat, j ≤ n ∧ i = .int .i64 j ∧ Ext w wr) (fun i _ => n - (intOf i).toNat)
  case atStart => exact ⟨0, Nat.zero_le _, rfl, Ext.refl _⟩
  case round =>
    obtain ⟨j, hj, rfl, hxr⟩ := hrel
    obtain ⟨t1, rfl⟩ := hxr.tok
    clear hxr
    by_cases hlt : j < n
    · obtain ⟨x, r, hx, hr, hs⟩ := HR.out.at (j := j) (by have := HN.out; omega)
      obtain ⟨x2, r2, hx2, hr2, hs2⟩ := HR2.out.at (j := j) (by have := HN.out; omega)
      obtain rfl : r2 = r := Option.some.inj (hr2.symm.trans hr)
      obtain ⟨b, o, rfl, f1⟩ := HT.out j x hx
      obtain ⟨b2, o2, rfl, f2⟩ := HT2.out j x2 hx2
      have z1 : b < w.heap.size := World.block_lt_of_cell? w _ f1
      have z2 : b2 < w.heap.size := World.block_lt_of_cell? w _ f2
      obtain ⟨xa, xcap, rfl, l1, l2, lc⟩ := hs
      obtain ⟨ya, ycap, rfl, l3, l4, lc2⟩ := hs2
      have HX := Lib.hid lc
      have HY := Lib.hid lc2
      obtain ⟨L, hL⟩ : ∃ L, L = r2.length := ⟨_, rfl⟩
      have hwl := nat64 l1 l2
      have hwl2 := nat64 l3 l4
      rw [← hL] at f1 f2 l1 l3 hwl hwl2
      have HL := Lib.hid hL
      have hLm : L ≤ 9223372036854775807 := Nat.le_trans l1 l2
      clear hx hx2 hr hr2 lc lc2 hL l1 l2 l3 l4
      go_wp2
      (refine region_drew (by kernel_rfl) (by kernel_rfl) ?_; (repeat (go_big_quiet_step (fail))); refine wpQuiet_nil ?_; rintro _ ⟨nq, rfl⟩)
      go_wp2
      go_loopw [6] (fun i wr => ∃ k : Nat, k ≤ L ∧ i = .int .i64 k ∧ Ext w wr) (fun i _ => L - (intOf i).toNat)
      case atStart => exact ⟨0, Nat.zero_le _, rfl, (by repeat first | exact Ext.refl _ | assumption | refine Ext.drew ?_ | refine Ext.drewN ?_ _ | refine Ext.extBy ?_ _ | refine Ext.alloc ?_ _ | refine Ext.setCell ?_ (by simp; try omega) _ | (refine Ext.trans ?_ (by assumption)))⟩
      case round =>
        obtain ⟨k, hk, rfl, hxr⟩ := hrel
        obtain ⟨t2, rfl⟩ := hxr.tok
        clear hxr
        by_cases hkt : k < L
        · obtain ⟨y, hy⟩ : ∃ y, r2[k]? = some y := ⟨_, List.getElem?_eq_getElem (by have := HL.out; omega)⟩
          obtain ⟨c1, o3, rfl, e1⟩ := HX.out k (.int .i64 y) (by simp [hy])
          obtain ⟨c2, o4, rfl, e2⟩ := HY.out k (.int .i64 y) (by simp [hy])
          have z3 : c1 < w.heap.size := World.block_lt_of_cell? w _ e1
          have z4 : c2 < w.heap.size := World.block_lt_of_cell? w _ e2
          clear hy
          go_wp2
          (refine region_drew (by kernel_rfl) (by kernel_rfl) ?_; (repeat (go_big_quiet_step (fail))); refine wpQuiet_nil ?_; rintro _ ⟨nq, rfl⟩)
          go_wp2
          go_roundw
          case rel => exact ⟨k + 1, by omega, by go_num, (by repeat first | exact Ext.refl _ | assumption | refine Ext.drew ?_ | refine Ext.drewN ?_ _ | refine Ext.extBy ?_ _ | refine Ext.alloc ?_ _ | refine Ext.setCell ?_ (by simp; try omega) _ | (refine Ext.trans ?_ (by assumption)))⟩
          case measure => simp [intOf]; omega
        · go_wp2
          go_roundw
          case rel => exact ⟨j + 1, by omega, by go_num, (by repeat first | exact Ext.refl _ | assumption | refine Ext.drew ?_ | refine Ext.drewN ?_ _ | refine Ext.extBy ?_ _ | refine Ext.alloc ?_ _ | refine Ext.setCell ?_ (by simp; try omega) _ | (refine Ext.trans ?_ (by assumption)))⟩
          case measure => simp [intOf]; omega
    · go_wp2
      go_ret
      exact ⟨rfl, (by repeat first | exact Ext.refl _ | assumption | refine Ext.drew ?_ | refine Ext.drewN ?_ _ | refine Ext.extBy ?_ _ | refine Ext.alloc ?_ _ | refine Ext.setCell ?_ (by simp; try omega) _ | (refine Ext.trans ?_ (by assumption)))⟩
end Go.Proofs.Ytkjgghbdpmkmoaa

/-
  The maker's bounds behind any operation: plain.
  No condition.
  What Op tells, whatever is asked of it.
  Condition: what Kind tells.
  What the walk of GatesAlike keeps.
  No condition.
-/
import Derived.Test.YtdjnekcpeaadhaaGreatJtK
namespace Go.Proofs.YtdjnekcpeaadhaaGreat
open Go.RowKit Go.Maps
set_option linter.unusedSimpArgs false
set_option linter.unusedVariables false
set_option maxRecDepth 100000

theorem mulG_wf : ∀ (n : Nat) {s : BSt} {a b out : List Nat} {i : Nat}, BWf s → WsB a → WsB b → WsB out → BWf (mulG n s a b out i).1
  | 0, _, _, _, _, _, h, _, _, _ => h
  | n + 1, s, a, b, out, i, h, ha, hb, ho => by
    have h1 := mulS_wf (i := i) h ha hb ho
    exact mulG_wf n h1.1 ha hb h1.2.1
theorem maskF_wf {s : BSt} {l b : List Nat} (h : BWf s) (hl : WsB l) (hb : WsB b) : BWf (maskF s l b).1 := by
  have g := anyF_wf h hb
  exact (eachF_wf okAnd l (List.replicate l.length (anyF s b).2) g.1 hl (WsB.rep g.2)).1
theorem topF_wf {a : List Nat} (h : WsB a) : WB (topF a) := h.getD _
theorem divF_wf {sg : Bool} {s : BSt} {a b : List Nat} (h : BWf s) (ha : WsB a) (hb : WsB b) : BWf (divF sg s a b).1 := by
  have p1 := sizeF_wf (sg := sg) h ha
  have p2 := sizeF_wf (sg := sg) p1.1 hb
  have p3 := partsF_wf p2.1 p1.2.1 p2.2.1
  cases sg
  · exact maskF_wf p3.1 p3.2.1 hb
  · have e := xorF_wf p3.1 (topF_wf ha) (topF_wf hb)
    have n := negF_wf e.1 p3.2.1
    have c := chooseF_wf n.1 e.2 n.2.1 p3.2.1
    exact maskF_wf c.1 c.2.1 hb
theorem modF_wf {sg : Bool} {s : BSt} {a b : List Nat} (h : BWf s) (ha : WsB a) (hb : WsB b) : BWf (modF sg s a b).1 := by
  have p1 := sizeF_wf (sg := sg) h ha
  have p2 := sizeF_wf (sg := sg) p1.1 hb
  have p3 := partsF_wf p2.1 p1.2.1 p2.2.1
  cases sg
  · exact maskF_wf p3.1 p3.2.2.2.1 hb
  · have n := negF_wf p3.1 p3.2.2.2.1
    have c := chooseF_wf n.1 (topF_wf ha) n.2.1 p3.2.2.2.1
    exact maskF_wf c.1 c.2.1 hb
theorem geF_wf1 {sg : Bool} {s : BSt} {a b : List Nat} (h : BWf s) (ha : WsB a) (hb : WsB b) : BWf (geF sg s a b).1 := by
  cases sg
  · exact (lessF_wf h ha hb).1
  · exact (lessF_wf h ((ha.take _).append (WsB.one (hb.getD _))) ((hb.take _).append (WsB.one (ha.getD _)))).1
theorem neF_wf1 {s : BSt} {a b : List Nat} (h : BWf s) (ha : WsB a) (hb : WsB b) : BWf (neF s a b).1 := by
  have p := eachF_wf okXor a b h ha hb
  exact (anyF_wf p.1 p.2.1).1
theorem opF_wf {n : Nat} {sg : Bool} {s : BSt} {a b : List Nat} (h : BWf s) (ha : WsB a) (hb : WsB b) (hn : 1 ≤ n ∧ n ≤ 19) : BWf (opF n sg s a b).1 := by
  rcases (show n = 1 ∨ n = 2 ∨ n = 3 ∨ n = 4 ∨ n = 5 ∨ n = 6 ∨ n = 7 ∨ n = 8 ∨ n = 9 ∨ n = 10 ∨ n = 11 ∨ n = 12 ∨ n = 13 ∨ n = 14 ∨ n = 15 ∨ n = 16 ∨ n = 17 ∨ n = 18 ∨ n = 19 by omega) with rfl | rfl | rfl | rfl | rfl | rfl | rfl | rfl | rfl | rfl | rfl | rfl | rfl | rfl | rfl | rfl | rfl | rfl | rfl
  · exact h
  · exact (negF_wf h ha).1
  · exact (sumF_wf a b (zeroF_wf h).1 ha hb (zeroF_wf h).2).1
  · exact (lessF_wf h ha hb).1
  · exact mulG_wf a.length (zeroF_wf h).1 ha hb (WsB.rep (zeroF_wf h).2)
  · exact divF_wf h ha hb
  · exact modF_wf h ha hb
  · exact (eachF_wf okAnd a b h ha hb).1
  · exact (eachF_wf okOr a b h ha hb).1
  · exact (eachF_wf okXor a b h ha hb).1
  · exact (orF_wf h (ha.getD 0).flip (hb.getD 0)).1
  · exact (movF_wf (zeroF_wf h).1 ha hb (zeroF_wf h).2).1
  · refine (movF_wf (zeroF_wf h).1 ha.reverse hb ?_).1
    split
    · exact topF_wf ha
    · exact (zeroF_wf h).2
  · exact neF_wf1 h ha hb
  · exact neF_wf1 h ha hb
  · exact geF_wf1 h ha hb
  · exact geF_wf1 h hb ha
  · exact geF_wf1 h hb ha
  · exact geF_wf1 h ha hb
theorem WsB.nil : WsB [] := fun _ h => by cases h
theorem opNet_wf {n : Nat} {k : Int} {two : Bool} (hn : 1 ≤ n ∧ n ≤ 19) : BWf (opNet n k two).1 := by
  have h1 := inputsF_wf (wid k) newS_wf
  have h2 := inputsF_wf (wid k) h1.1
  cases two
  · exact opF_wf h1.1 h1.2.1 WsB.nil hn
  · exact opF_wf h2.1 h1.2.1 h2.2.1 hn
end Go.Proofs.YtdjnekcpeaadhaaGreat
namespace Go.Proofs.YtdjnekcpeaadhaaGreat
open Go.RowKit Go.Maps
set_option linter.unusedSimpArgs false
set_option linter.unusedVariables false
set_option maxRecDepth 100000

/-- A net and wires, or none: fresh rows, apart. -/
def NetU (R : BL) (ok : Bool) (w : World) (e : Ending) (w' : World) : Prop :=
  ∃ ga gc q c, e = .returned (.tuple #[.agg #[.slice ga R.1.gs.length gc], .slice q R.2.length c, .bool ok]) ∧ Hid (Ext w w' ∧ w'.ownsRow w.heap.size 62 3 (.slice ga R.1.gs.length gc) R.1.gs.length (gcells R.1.gs) ∧ w'.ownsRow w.heap.size 3 1 (.slice q R.2.length c) R.2.length (wvs R.2) ∧ ∀ b, (Value.slice ga R.1.gs.length gc).ownBlock = some b → (Value.slice q R.2.length c).ownBlock ≠ some b)
theorem NetR.u {R : BL} {w : World} {e : Ending} {w' : World} (h : NetR R w e w') : NetU R true w e w' := by
  obtain ⟨gv, q, d, rfl, H⟩ := h
  obtain ⟨h1, h2, h3, h4⟩ := H.out
  obtain ⟨a, c, rfl⟩ := own_n h2
  exact ⟨a, c, q, d, rfl, Lib.hid ⟨h1, h2, h3, h4⟩⟩
def noBL : BL := (newS, [])
theorem NetNo.u {w : World} {e : Ending} {w' : World} (h : NetNo w e w') : NetU noBL false w e w' := by
  obtain ⟨rfl, h1⟩ := h
  exact ⟨none, 0, none, 0, rfl, Lib.hid ⟨h1, own_nil _ _ _ _, own_nil _ _ _ _, fun b h => by cases h⟩⟩
theorem opOf_range {n : Nat} {k : Int} (h : fitsv (opOf n) k = true) : 3 ≤ n ∧ n ≤ 19 := by
  refine ⟨?_, ?_⟩
  · refine Decidable.byContradiction fun hc => ?_
    rcases (show n = 0 ∨ n = 1 ∨ n = 2 by omega) with rfl | rfl | rfl
    · rw [show opOf 0 = 0 from rfl, fits0] at h; cases h
    · rw [show opOf 1 = 0 from rfl, fits0] at h; cases h
    · rw [show opOf 2 = 0 from rfl, fits0] at h; cases h
  · refine Decidable.byContradiction fun hc => ?_
    rw [opOf_big n (by omega), fits0] at h; cases h
theorem isk_pos {k a : Int} (h : isk k a = true) : 0 < wid k := by
  have := width_wid k
  simp only [isk, Bool.and_eq_true, decide_eq_true_eq] at h
  omega
/-- What is known where an operation on two values is. -/
theorem bin_known {op k a b : Int} (h : (binv op k a b).2.2 = true) : ∃ n : Nat, op = (n : Int) ∧ 3 ≤ n ∧ n ≤ 19 ∧ fitsv (opOf n) k = true ∧ 0 < wid k ∧ isk k a = true ∧ isk k b = true := by
  unfold binv at h
  split at h
  · rename_i hb
    simp only [binOk, Bool.and_eq_true, decide_eq_true_eq] at hb
    have hr := opOf_range hb.2
    exact ⟨op.toNat, by omega, hr.1, hr.2, hb.2, isk_pos hb.1.1.1, hb.1.1.1, hb.1.1.2⟩
  · cases h
theorem un_known {op k a : Int} (h : (unv op k a).2 = true) : ∃ n : Nat, op = (n : Int) ∧ (n = 1 ∨ n = 2 ∧ k ≠ 1) ∧ 0 < wid k ∧ isk k a = true := by
  unfold unv at h
  split at h
  · cases h
  · rename_i hi
    have hi2 : isk k a = true := by simpa using hi
    split at h
    · rename_i e
      exact ⟨1, e, .inl rfl, isk_pos hi2, hi2⟩
    · split at h
      · rename_i e
        split at h
        · cases h
        · rename_i hk
          exact ⟨2, e, .inr ⟨rfl, hk⟩, isk_pos hi2, hi2⟩
      · cases h
/-- Gates that a net may have. -/
def Gok (R : BL) : Prop := (∀ g ∈ R.1.gs, g.op ≤ 3 ∧ 1 ≤ g.op ∧ WB g.a ∧ WB g.b) ∧ R.1.gs.length ≤ 200000 ∧ R.2.length ≤ 64
theorem opNet_ok {n : Nat} {k : Int} {two : Bool} (hn : 1 ≤ n ∧ n ≤ 19) : Gok (opNet n k two) := by
  have h := opNet_wf (n := n) (k := k) (two := two) hn
  refine ⟨h.ab, h.len, ?_⟩
  have h64 := wid_le k
  have e : (opNet n k two).2.length = if n = 11 ∨ 14 ≤ n then 1 else (inputsF (wid k) newS).2.length := by
    cases two
    · exact opF_len n (sgn k) _ _ _ hn
    · exact opF_len n (sgn k) _ _ _ hn
  rw [inputsF_len] at e
  split at e <;> omega
theorem opU (hK : KindC) (op k : Int) (two : Bool) : ∃ R ok, Gok R ∧ ∀ w, Calls Tryz.prog 7 #[.int .i64 op, .int .i64 k, .bool two] w (NetU R ok w) := by
  cases two
  · by_cases h : (unv op k 0).2 = true
    · obtain ⟨n, rfl, hn, hp, -⟩ := un_known h
      exact ⟨opNet n k false, true, opNet_ok (by omega), fun w => (op_yes1 n k w h (by omega) hp).mono fun _ _ h => h.u⟩
    · exact ⟨noBL, false, ⟨fun g hg => (by cases hg), (by simp [noBL, newS]), (by simp [noBL])⟩, fun w => (op_no1 op k w (by simpa using h)).mono fun _ _ h => h.u⟩
  · by_cases h : (binv op k 0 0).2.2 = true
    · obtain ⟨n, rfl, h3, h19, -, hp, -, -⟩ := bin_known h
      exact ⟨opNet n k true, true, opNet_ok (by omega), fun w => (op_yes2 hK n k w h (by omega) hp).mono fun _ _ h => h.u⟩
    · exact ⟨noBL, false, ⟨fun g hg => (by cases hg), (by simp [noBL, newS]), (by simp [noBL])⟩, fun w => (op_no2 hK op k w (by simpa using h)).mono fun _ _ h => h.u⟩
end Go.Proofs.YtdjnekcpeaadhaaGreat
namespace Go.Proofs.YtdjnekcpeaadhaaGreat
open Go.RowKit Go.Maps
set_option linter.unusedSimpArgs false
set_option linter.unusedVariables false
set_option maxRecDepth 100000

theorem own_room3 {w : World} {base g n cap : Nat} {e : TypeId} {xs : List Value} (h : w.ownsRow base e 3 (.slice (some ⟨g, 0, none⟩) n cap) n xs) (j : Nat) (hj : j < n) : w.there g (j * 3) 3 := by
  obtain ⟨h1, h2⟩ := h
  rcases h2 with ⟨h2, _⟩ | ⟨g', cap', cur, hv, hg, hh, hn, hc, hs, ht⟩
  · cases h2
  · simp only [Value.slice.injEq, Option.some.injEq, Addr.mk.injEq] at hv
    obtain ⟨⟨rfl, -, -⟩, -, rfl⟩ := hv
    refine fun i hi => ⟨?_, frozen_of_row _ _ _ _ _ hh⟩
    rw [cell_of_row w g _ cur e (0, 0) hh, Array.getElem?_eq_getElem (by rw [hs]; omega)]
    rfl
theorem own_put3 {w : World} {base g n cap : Nat} {e : TypeId} {xs : List Value} (h : w.ownsRow base e 3 (.slice (some ⟨g, 0, none⟩) n cap) n xs) (j : Nat) (a b c : Value) : (w.setCells g j [a, b, c]).ownsRow base e 3 (.slice (some ⟨g, 0, none⟩) n cap) n (((xs.set j a).set (j + 1) b).set (j + 1 + 1) c) :=
  (((h.stored j a).1.stored (j + 1) b).1.stored (j + 1 + 1) c).1
theorem kb_put3 (w : World) (g j : Nat) (a b c : Value) : Kb [g] w (w.setCells g j [a, b, c]) :=
  ((Kb.set w g j (by simp) a).trans (Kb.set _ g (j + 1) (by simp) b)).trans (Kb.set _ g (j + 1 + 1) (by simp) c)
/-- Behind the two nets: what lay in memory at wA stays; the second net's variable, its gates' row, its wires' row. -/
structure AL (wA : World) (XB : Nat) (gb lb : Value) (n m : Nat) (ys zs : List Value) (w : World) : Prop where
  ext : Ext wA w
  box : BoxV XB [gb] w
  rb : w.ownsRow wA.heap.size 62 3 gb n ys
  rl : w.ownsRow wA.heap.size 3 1 lb m zs
  gX : gb.ownBlock ≠ some XB
  lX : lb.ownBlock ≠ some XB
  gl : ∀ b, gb.ownBlock = some b → lb.ownBlock ≠ some b
section
variable {wA w w' : World} {XB g c n m j : Nat} {gb lb : Value} {ys zs : List Value}
theorem AL.next (h : AL wA XB gb lb n m ys zs w) (hx : Ext w w') : AL wA XB gb lb n m ys zs w' :=
  { h with ext := h.ext.trans hx, box := h.box.ext hx, rb := ownsRow_ext h.rb hx, rl := ownsRow_ext h.rl hx }
theorem AL.put3 (h : AL wA XB (.slice (some ⟨g, 0, none⟩) n c) lb n m ys zs w) (u1 u2 u3 : Value) : AL wA XB (.slice (some ⟨g, 0, none⟩) n c) lb n m (((ys.set j u1).set (j + 1) u2).set (j + 1 + 1) u3) zs (w.setCells g j [u1, u2, u3]) := by
  have hg : wA.heap.size ≤ g := (h.rb.lt g rfl).1
  have hk := kb_put3 w g j u1 u2 u3
  exact { ext := ((h.ext.setCell (p := ⟨g, j, none⟩) hg u1).setCell (p := ⟨g, j + 1, none⟩) hg u2).setCell (p := ⟨g, j + 1 + 1, none⟩) hg u3, box := h.box.kb hk (fun e => h.gX (by simp at e; rw [e]; rfl)), rb := own_put3 h.rb j u1 u2 u3, rl := hk.row h.rl (fun b hb e => by simp at hb; subst hb; exact h.gl b rfl e), gX := h.gX, lX := h.lX, gl := h.gl }
theorem AL.put1 (h : AL wA XB gb (.slice (some ⟨g, 0, none⟩) m c) n m ys zs w) (hj : j < m) (u : Value) : AL wA XB gb (.slice (some ⟨g, 0, none⟩) m c) n m ys (zs.set j u) (w.setCell ⟨g, j, none⟩ u) := by
  have hg : wA.heap.size ≤ g := (h.rl.lt g rfl).1
  have hk : Kb [g] w (w.setCell ⟨g, j, none⟩ u) := Kb.set w g j (by simp) u
  exact { ext := h.ext.setCell (p := ⟨g, j, none⟩) hg u, box := h.box.kb hk (fun e => h.lX (by simp at e; rw [e]; rfl)), rb := hk.row h.rb (fun b hb e => by simp at hb; subst hb; exact h.gl b e rfl), rl := own_set1 h.rl j hj u, gX := h.gX, lX := h.lX, gl := h.gl }
end
theorem gcells_len (l : List Gt) : (gcells l).length = l.length * 3 := by
  induction l with
  | nil => rfl
  | cons g l ih => unfold gcells at *; rw [List.flatMap_cons, List.length_append, ih]; simp [gcell]; omega
theorem gcells_at : ∀ (l : List Gt) (j : Nat) (g : Gt), l[j]? = some g → (gcells l)[j * 3]? = some (.int .i64 (g.op : Int)) ∧ (gcells l)[j * 3 + 1]? = some (.int .i64 (g.a : Int)) ∧ (gcells l)[j * 3 + 2]? = some (.int .i64 (g.b : Int))
  | [], _, _, h => by simp at h
  | q :: l, 0, g, h => by simp at h; subst h; exact ⟨rfl, rfl, rfl⟩
  | q :: l, j + 1, g, h => by
    have := gcells_at l j g (by simpa using h)
    have e : gcells (q :: l) = gcell q ++ gcells l := rfl
    have hl : (gcell q).length = 3 := rfl
    rw [e, show (j + 1) * 3 = j * 3 + 3 by omega]
    refine ⟨?_, ?_, ?_⟩
    · rw [List.getElem?_append_right (by omega), hl, Nat.add_sub_cancel]; exact this.1
    · rw [List.getElem?_append_right (by omega), hl, show j * 3 + 3 + 1 - 3 = j * 3 + 1 by omega]; exact this.2.1
    · rw [List.getElem?_append_right (by omega), hl, show j * 3 + 3 + 2 - 3 = j * 3 + 2 by omega]; exact this.2.2
/-- Three cells of a row of gates, its slice made plain. -/
theorem gate_cells {w : World} {B n c : Nat} {p : Option Addr} {xs : List Value} {l : List Gt} (h : w.ownsRow B 62 3 (.slice p n c) n xs) (j : Nat) (g : Gt) (hg : l[j]? = some g) (hx : ∀ t, j * 3 ≤ t → xs[t]? = (gcells l)[t]?) :
    ∃ b, p = some ⟨b, 0, none⟩ ∧ w.cell? ⟨b, j * 3, none⟩ = some (.int .i64 (g.op : Int)) ∧ w.cell? ⟨b, j * 3 + 1, none⟩ = some (.int .i64 (g.a : Int)) ∧ w.cell? ⟨b, j * 3 + 2, none⟩ = some (.int .i64 (g.b : Int)) ∧ b < w.heap.size := by
  obtain ⟨a1, a2, a3⟩ := gcells_at l j g hg
  obtain ⟨a', c', e, -, -, hc⟩ := SlC.of_owns h
  simp only [Value.slice.injEq] at e
  obtain ⟨b, o, e1, h1⟩ := hc (j * 3) _ ((hx _ (Nat.le_refl _)).trans a1)
  obtain ⟨b2, o2, e2, h2⟩ := hc (j * 3 + 1) _ ((hx _ (by omega)).trans a2)
  obtain ⟨b3, o3, e3, h3⟩ := hc (j * 3 + 2) _ ((hx _ (by omega)).trans a3)
  have hp := e.1.trans e1
  have e12 := e1.symm.trans e2
  have e13 := e1.symm.trans e3
  simp only [Option.some.injEq, Addr.mk.injEq] at e12 e13
  obtain ⟨rfl, rfl, -⟩ := e12
  obtain ⟨rfl, rfl, -⟩ := e13
  have ho : o = 0 := by
    rcases h.2 with ⟨h5, h6⟩ | ⟨g', cap', cur, hv, -⟩
    · have := h.1
      subst h6
      simp only [Value.slice.injEq] at h5
      rw [h5.1] at hp; cases hp
    · simp only [Value.slice.injEq] at hv
      rw [hp] at hv
      simp only [Option.some.injEq, Addr.mk.injEq] at hv
      exact hv.1.2.1
  subst ho
  rw [Nat.zero_add] at h1 h2 h3
  exact ⟨b, hp, h1, h2, h3, World.block_lt_of_cell? w _ h1⟩
theorem wire_cell {w : World} {B n c : Nat} {p : Option Addr} {xs : List Value} {l : List Nat} (h : w.ownsRow B 3 1 (.slice p n c) n xs) (j x : Nat) (hg : l[j]? = some x) (hx : ∀ t, j ≤ t → xs[t]? = (wvs l)[t]?) :
    ∃ b, p = some ⟨b, 0, none⟩ ∧ w.cell? ⟨b, j, none⟩ = some (.int .i64 (x : Int)) ∧ b < w.heap.size := by
  obtain ⟨a', c', e, -, -, hc⟩ := SlC.of_owns h
  simp only [Value.slice.injEq] at e
  obtain ⟨b, o, e1, h1⟩ := hc j _ ((hx _ (Nat.le_refl _)).trans (wvs_get hg))
  have hp := e.1.trans e1
  have ho : o = 0 := by
    rcases h.2 with ⟨h5, h6⟩ | ⟨g', cap', cur, hv, -⟩
    · subst h6
      simp only [Value.slice.injEq] at h5
      rw [h5.1] at hp; cases hp
    · simp only [Value.slice.injEq] at hv
      rw [hp] at hv
      simp only [Option.some.injEq, Addr.mk.injEq] at hv
      exact hv.1.2.1
  subst ho
  rw [Nat.zero_add] at h1
  exact ⟨b, hp, h1, World.block_lt_of_cell? w _ h1⟩
end Go.Proofs.YtdjnekcpeaadhaaGreat

/-
  A maker of nets as it lies in memory.
  No condition.
  The maker's walks: a gate.
  Condition: the maker lies in memory.
  The maker's walks: nought, constants, inputs.
  Condition: the maker lies in memory.
-/
import Derived.Maps.OwnSet
import Derived.DeepKeys4
import Derived.Laws.BitsAllLaws
import Derived.Test.YtdjnekcpeaadhaaGreatGtPlain
import Derived.Test.YtdjnekcpeaadhaaGreatJtA
namespace Go.Proofs.YtdjnekcpeaadhaaGreat
open Go.RowKit Go.Maps
set_option linter.unusedSimpArgs false
set_option linter.unusedVariables false
set_option maxRecDepth 100000

theorem xor_one (w : Nat) : w ^^^ 1 = flip w := by
  unfold flip
  have h1 : (w ^^^ 1) / 2 = w / 2 := by
    have := Nat.xor_div_two (a := w) (b := 1)
    simpa using this
  have h2 : (w ^^^ 1) % 2 = (w + 1) % 2 := by
    have h3 := Nat.testBit_xor w 1 0
    simp only [Nat.testBit_zero] at h3
    rcases Nat.mod_two_eq_zero_or_one w with h | h <;> rw [h] at h3 <;> rcases Nat.mod_two_eq_zero_or_one (w ^^^ 1) with h4 | h4 <;> rw [h4] at h3 <;> simp at h3 <;> omega
  split <;> omega
theorem bits_flip (w : Nat) (h : WB w) : bits .xor .i64 (w : Int) 1 = ((flip w : Nat) : Int) := by
  have hl : flip w < 400000 := h.flip
  unfold WB at h
  show IntKind.i64.wrap ((BitVec.ofInt 64 (w : Int) ^^^ BitVec.ofInt 64 ((1 : Nat) : Int)).toNat : Int) = _
  rw [BitVec.toNat_xor, ofInt_u64 w (by omega), ofInt_u64 1 (by omega), xor_one]
  simp [IntKind.wrap, IntKind.bits, IntKind.signed]
  omega
/-! ### The map's keys -/
def pairV (a b : Nat) : Value := .agg #[.int .i64 a, .int .i64 b]
def pairK (a b : Nat) : Lit := .string (keyBytes [.int .i64 a, .int .i64 b])
theorem wf_nat {a : Nat} (h : WB a) : (Lit.int .i64 (a : Int)).wf = true := WalkArith.wf_i64 (by unfold WB at h; omega)
theorem pairLaw : Keyed Tryz.prog 100 := Keyed.of_law (deep_law_laid (by kernel_rfl) (m := 2) (by omega) (of_decide_eq_true (by kernel_rfl)) (by kernel_rfl) (by kernel_rfl))
theorem pairKey {a b : Nat} (ha : WB a) (hb : WB b) : keyOf Tryz.prog 100 (pairV a b) = some (pairK a b) := by
  have wa := wf_nat ha
  have wb := wf_nat hb
  have hkt : Tryz.prog.keyType 100 = true := by kernel_rfl
  obtain ⟨m, hm⟩ : ∃ m, Tryz.prog.types.size = m + 1 := ⟨Tryz.prog.types.size - 1, by kernel_rfl⟩
  have hc : Tryz.prog.cellsOf 100 = 2 := by kernel_rfl
  have hi : Tryz.prog.cellsOf 3 = 1 := by kernel_rfl
  unfold keyOf pairV
  simp only [Tryz.underlying100]
  rw [if_pos (by simp [hkt, Value.formed, Tryz.underlying100, hc]), hm]
  unfold Program.keyLits
  simp only [Tryz.underlying100, Value.cells]
  rw [if_pos ⟨by rw [hc]; rfl, by simp⟩]
  simp [Program.keyLits, Tryz.underlying3, hi, wa, wb, pairK]
theorem pairV_inj {a b c d : Nat} (h : pairV a b = pairV c d) : a = c ∧ b = d := by
  simp only [pairV, Value.agg.injEq, Array.mk.injEq, List.cons.injEq, Value.int.injEq, true_and, and_true] at h
  omega
/-- What the map holds. -/
def SeenIs (D : DataW Unit) (l : List ((Nat × Nat) × Nat)) : Prop :=
  IsMap D ∧ ∀ a b, WB a → WB b → Maps.has D (pairK a b) = (look l a b).isSome ∧ ∀ w, look l a b = some w → D.atKey (pairK a b) (.lit (.int .i64 0)) = .lit (.int .i64 (w : Int))
theorem SeenIs.nil : SeenIs (.map []) [] := ⟨isMap_empty, fun a b _ _ => ⟨rfl, fun w h => by simp [look] at h⟩⟩
theorem SeenIs.put {D : DataW Unit} {l : List ((Nat × Nat) × Nat)} (h : SeenIs D l) {a b w : Nat} (ha : WB a) (hb : WB b) : SeenIs (D.put (pairK a b) (.lit (.int .i64 (w : Int)))) (((a, b), w) :: l) := by
  have hk : WideAt.IsKeyLit (pairK a b) := pairLaw.key (pairKey ha hb)
  refine ⟨h.1.put _ _, fun c d hc hd => ?_⟩
  by_cases e : (a, b) = (c, d)
  · obtain ⟨rfl, rfl⟩ := Prod.mk.inj e
    rw [has_put_same h.1 hk, atKey_put_same h.1 hk]
    have hl : look (((a, b), w) :: l) a b = some w := by simp [look]
    rw [hl]
    exact ⟨rfl, fun w' e => by rw [Option.some.inj e]⟩
  · have hne : pairK c d ≠ pairK a b := fun e2 => e (by
      obtain ⟨e3, e4⟩ := pairV_inj (pairLaw.inj (pairKey ha hb) (e2 ▸ pairKey hc hd))
      rw [e3, e4])
    rw [has_put_other hne, atKey_put_other hne]
    have hl : look (((a, b), w) :: l) c d = look l c d := by
      unfold look
      rw [List.find?_cons_of_neg (by simpa using e)]
    rw [hl]
    exact h.2 c d hc hd
/-! ### Blocks -/
theorem SlC.kb0 {S : List Nat} {w w' : World} {v : Value} {n : Nat} {cs : List Value} (h : SlC w v n cs) (hk : Kb S w w') (hS : cs ≠ [] → ∀ b ∈ S, v.ownBlock ≠ some b) : SlC w' v n cs := by
  obtain ⟨a, cap, rfl, h1, h2, hc⟩ := h
  refine ⟨a, cap, rfl, h1, h2, fun j u hu => ?_⟩
  obtain ⟨b, o, rfl, hcell⟩ := hc j u hu
  exact ⟨b, o, rfl, hk.cell (fun hb => hS (by intro e; rw [e] at hu; simp at hu) b hb rfl) hcell⟩
theorem SlC.lt0 {w : World} {v : Value} {n : Nat} {cs : List Value} (h : SlC w v n cs) (hne : cs ≠ []) : ∀ b, v.ownBlock = some b → b < w.heap.size := by
  obtain ⟨a, cap, rfl, h1, h2, hc⟩ := h
  intro b hb
  obtain ⟨x, hx⟩ : ∃ x, cs[0]? = some x := ⟨_, List.getElem?_eq_getElem (List.length_pos_iff.2 hne)⟩
  obtain ⟨b2, o, rfl, hcell⟩ := hc 0 x hx
  simp [Value.ownBlock] at hb
  subst hb
  exact World.block_lt_of_cell? w _ hcell
/-- The maker's blocks. -/
def Bs (N M : Nat) (gv : Value) : List Nat := gv.ownBlock.toList ++ [N, M]
structure Stp (N M : Nat) (gv gv' : Value) (w w' : World) : Prop where
  kb : Kb (Bs N M gv) w w'
  bs : ∀ b ∈ Bs N M gv', b ∈ Bs N M gv ∨ w.heap.size ≤ b
theorem Stp.of_ext {N M : Nat} {gv : Value} {w w' : World} (h : Ext w w') : Stp N M gv gv w w' := ⟨Kb.of_ext h, fun _ h => .inl h⟩
theorem Stp.refl (N M : Nat) (gv : Value) (w : World) : Stp N M gv gv w w := Stp.of_ext (Ext.refl w)
theorem Stp.trans {N M : Nat} {g1 g2 g3 : Value} {a b c : World} (h : Stp N M g1 g2 a b) (k : Stp N M g2 g3 b c) : Stp N M g1 g3 a c :=
  ⟨h.kb.trans_new k.kb h.bs, fun i hi => (k.bs i hi).elim (h.bs i) (fun e => .inr (Nat.le_trans h.kb.size e))⟩
def wvs (l : List Nat) : List Value := l.map fun w : Nat => Value.int .i64 (w : Int)
theorem wvs_len (l : List Nat) : (wvs l).length = l.length := by simp [wvs]
/-- Wires that a slice shows, off the maker's blocks. -/
def WL (bs : List Nat) (w : World) (v : Value) (l : List Nat) : Prop := SlC w v l.length (wvs l) ∧ (l ≠ [] → ∀ b ∈ bs, v.ownBlock ≠ some b)
theorem WL.step {N M : Nat} {gv gv' v : Value} {w w' : World} {l : List Nat} (h : WL (Bs N M gv) w v l) (hs : Stp N M gv gv' w w') : WL (Bs N M gv') w' v l := by
  have hne : wvs l ≠ [] → l ≠ [] := fun e e2 => e (by rw [e2]; rfl)
  refine ⟨h.1.kb0 hs.kb (fun e => h.2 (hne e)), fun e b hb hv => ?_⟩
  rcases hs.bs b hb with e1 | e1
  · exact h.2 e b e1 hv
  · exact absurd (h.1.lt0 (by intro e2; exact e (by simpa [wvs] using e2)) b hv) (Nat.not_lt.2 e1)
theorem WL.ext {bs : List Nat} {v : Value} {w w' : World} {l : List Nat} (h : WL bs w v l) (hx : Ext w w') : WL bs w' v l := ⟨h.1.ext hx, h.2⟩
theorem WL.nil (bs : List Nat) (w : World) : WL bs w (.slice none 0 0) [] := ⟨⟨none, 0, rfl, Nat.le_refl _, Nat.zero_le _, fun j u hu => by simp [wvs] at hu⟩, fun h => absurd rfl h⟩
/-- A fresh row of its own. -/
theorem WL.own {N M : Nat} {gv v : Value} {w w' : World} {base : Nat} {l : List Nat} (h : w'.ownsRow base 3 1 v l.length (wvs l)) (hb : ∀ b ∈ Bs N M gv, b < base) : WL (Bs N M gv) w' v l := by
  refine ⟨SlC.of_owns h, fun _ b hb1 hv => ?_⟩
  exact absurd (hb b hb1) (Nat.not_lt.2 (h.lt b hv).1)
end Go.Proofs.YtdjnekcpeaadhaaGreat
namespace Go.Proofs.YtdjnekcpeaadhaaGreat
open Go.RowKit Go.Maps
set_option linter.unusedSimpArgs false
set_option linter.unusedVariables false
set_option maxRecDepth 100000

def zeroI (z : Option Nat) : Int := match z with | none => -1 | some z => (z : Int)
def gcell (g : Gt) : List Value := [.int .i64 (g.op : Int), .int .i64 (g.a : Int), .int .i64 (g.b : Int)]
def gcells (l : List Gt) : List Value := l.flatMap gcell
theorem gcells_snoc (l : List Gt) (g : Gt) : gcells (l ++ [g]) = gcells l ++ gcell g := by simp [gcells]
/-- The maker in memory. -/
structure GB (W : World) (N M : Nat) (gv : Value) (s : BSt) (w : World) : Prop where
  ext : Ext W w
  box : BoxV N [gv, .bool s.full, .map (some M), .int .i64 (zeroI s.zero)] w
  row : w.ownsRow W.heap.size 62 3 gv s.gs.length (gcells s.gs)
  map : ∃ (D : DataW Unit) (k : Nat), k ≤ s.seen.length ∧ w.ownsMap Tryz.prog 100 (plainElem Tryz.prog 3) M k D ∧ SeenIs D s.seen
  ns : W.heap.size ≤ N ∧ W.heap.size ≤ M
  nm : N ≠ M
  gn : ∀ b, gv.ownBlock = some b → b ≠ N ∧ b ≠ M
  wf : BWf s
section
variable {W w w' : World} {N M : Nat} {gv gv' : Value} {s s' : BSt}
theorem ownsMap_ext {D : DataW Unit} {k : Nat} (h : w.ownsMap Tryz.prog 100 (plainElem Tryz.prog 3) M k D) (hx : w'.heap[M]? = w.heap[M]?) : w'.ownsMap Tryz.prog 100 (plainElem Tryz.prog 3) M k D := by
  obtain ⟨es, clock, h1, h2, h3, h4⟩ := h
  exact ⟨es, clock, by rw [hx]; exact h1, h2, h3, h4⟩
theorem GB.mlt (h : GB W N M gv s w) : M < w.heap.size := let ⟨_, _, _, h1, _⟩ := h.map; h1.lt
theorem GB.lts (h : GB W N M gv s w) : ∀ b ∈ Bs N M gv, b < w.heap.size := fun b hb => by
  rcases List.mem_append.1 hb with e | e
  · exact (h.row.lt b (Option.mem_toList.1 e)).2
  · simp at e
    rcases e with rfl | rfl
    · exact h.box.lt
    · exact h.mlt
theorem GB.nss (h : GB W N M gv s w) : ∀ b ∈ Bs N M gv, W.heap.size ≤ b := fun b hb => by
  rcases List.mem_append.1 hb with e | e
  · exact (h.row.lt b (Option.mem_toList.1 e)).1
  · simp at e
    rcases e with rfl | rfl
    · exact h.ns.1
    · exact h.ns.2
theorem GB.next (h : GB W N M gv s w) (hx : Ext w w') : GB W N M gv s w' :=
  { h with ext := h.ext.trans hx, box := h.box.ext hx, row := ownsRow_ext h.row hx, map := let ⟨D, k, h1, h2, h3⟩ := h.map; ⟨D, k, h1, ownsMap_ext h2 (Below.block hx M h.mlt), h3⟩ }
/-- A store into the maker's own block. -/
theorem GB.put (h : GB W N M gv s w) (j : Nat) (u : Value) (hb : BoxV N [gv, .bool s'.full, .map (some M), .int .i64 (zeroI s'.zero)] (w.setCell ⟨N, j, none⟩ u)) (h1 : s'.gs = s.gs) (h2 : s'.seen = s.seen) (hw : BWf s') : GB W N M gv s' (w.setCell ⟨N, j, none⟩ u) ∧ Stp N M gv gv w (w.setCell ⟨N, j, none⟩ u) := by
  have hk : Kb [N] w (w.setCell ⟨N, j, none⟩ u) := Kb.set w N j (by simp) u
  refine ⟨{ ext := hk.ext h.ext (fun k hk => by simp at hk; rw [hk]; exact h.ns.1), box := hb, row := ?_, map := ?_, ns := h.ns, nm := h.nm, gn := h.gn, wf := hw }, ⟨hk.mono (fun k hk => by simp at hk; simp [Bs, hk]), fun _ h => .inl h⟩⟩
  · rw [h1]
    exact hk.row h.row (fun b hb e => by simp at hb; exact (h.gn b e).1 hb)
  · rw [h2]
    obtain ⟨D, k, e1, e2, e3⟩ := h.map
    exact ⟨D, k, e1, ownsMap_ext e2 (hk.block M h.mlt (by simpa using Ne.symm h.nm)), e3⟩
end
theorem GB.push {W w w2 : World} {N M : Nat} {gv gv2 : Value} {s : BSt} {g : Gt} (h : GB W N M gv s w) (hlt : s.gs.length < 200000) (hg : g.op ≤ 3 ∧ 1 ≤ g.op ∧ WB g.a ∧ WB g.b) (hgr : w.grownBy w2 gv.ownBlock) (hown : w2.ownsRow W.heap.size 62 3 gv2 (s.gs.length + 1) (gcells s.gs ++ gcell g)) (hat : gv2.ownBlock = gv.ownBlock ∨ gv2.ownBlock = some w.heap.size) :
    BoxV N [gv, .bool s.full, .map (some M), .int .i64 (zeroI s.zero)] w2 ∧ GB W N M gv2 (gateF s g).1 (w2.setCell ⟨N, 0, none⟩ gv2) ∧ Stp N M gv gv2 w (w2.setCell ⟨N, 0, none⟩ gv2) := by
  have hk : Kb gv.ownBlock.toList w w2 := Kb.grown hgr (fun g hg => Option.mem_toList.2 hg)
  have hN : N ∉ gv.ownBlock.toList := fun e => (h.gn N (Option.mem_toList.1 e)).1 rfl
  have hM : M ∉ gv.ownBlock.toList := fun e => (h.gn M (Option.mem_toList.1 e)).2 rfl
  have hb := h.box.kb hk hN
  have hC : Kb [N] w2 (w2.setCell ⟨N, 0, none⟩ gv2) := Kb.set w2 N 0 (by simp) gv2
  have hlN := h.box.lt
  have hlM := h.mlt
  have hwf := gateF_wf h.wf hg
  have hgf : (gateF s g).1 = { s with gs := s.gs ++ [g] } := by unfold gateF; rw [if_neg (by omega)]
  rw [hgf] at hwf ⊢
  have hgn : ∀ b, gv2.ownBlock = some b → b ≠ N ∧ b ≠ M := fun b hb => by
    rcases hat with e | e
    · exact h.gn b (by rw [← e]; exact hb)
    · rw [e] at hb
      simp at hb
      omega
  have hkk : Kb (Bs N M gv) w (w2.setCell ⟨N, 0, none⟩ gv2) := (hk.mono (fun k hk => List.mem_append_left _ hk)).trans (hC.mono (fun k hk => by simp at hk; simp [Bs, hk]))
  refine ⟨hb, { ext := hkk.ext h.ext h.nss, box := (hb.put 0 gv2).cast rfl, row := ?_, map := ?_, ns := h.ns, nm := h.nm, gn := hgn, wf := hwf.1 }, ⟨hkk, fun b hb => ?_⟩⟩
  · have h1 := hC.row hown (fun b hb e => by simp at hb; exact (hgn b e).1 hb)
    simp only [List.length_append, List.length_singleton, gcells_snoc]
    exact h1
  · obtain ⟨D, k, e1, e2, e3⟩ := h.map
    exact ⟨D, k, e1, ownsMap_ext e2 ((hC.block M (Nat.lt_of_lt_of_le hlM hk.size) (by simpa using Ne.symm h.nm)).trans (hk.block M hlM hM)), e3⟩
  · rcases List.mem_append.1 hb with e | e
    · rcases hat with e2 | e2
      · exact .inl (List.mem_append_left _ (by rw [← e2]; exact e))
      · rw [e2] at e
        simp at e
        exact .inr (by omega)
    · exact .inl (List.mem_append_right _ e)
/-- What a function that puts gates tells: a wire. -/
def RetW (W : World) (N M : Nat) (gv : Value) (r : BR) (w : World) (e : Ending) (w' : World) : Prop :=
  e = .returned (.int .i64 (r.2 : Int)) ∧ ∃ gv', GB W N M gv' r.1 w' ∧ Stp N M gv gv' w w'
theorem infoGate : (Tryz.prog.info? 62).map (fun i => (i.zero, i.size, i.bytes)) = some (some (.agg #[.int .i64 0, .int .i64 0, .int .i64 0]), 3, 24) := by kernel_rfl
set_option maxHeartbeats 4000000 in
theorem gate_any (W w : World) (N M : Nat) (gv : Value) (s : BSt) (g : Gt) (h : GB W N M gv s w) (hg : g.op ≤ 3 ∧ 1 ≤ g.op ∧ WB g.a ∧ WB g.b) :
    Calls Tryz.prog 44 #[.pointer (some ⟨N, 0, none⟩), .agg #[.int .i64 (g.op : Int), .int .i64 (g.a : Int), .int .i64 (g.b : Int)]] w (RetW W N M gv (gateF s g) w) := by
  obtain ⟨Q, hQ⟩ : ∃ Q, Q = RetW W N M gv (gateF s g) w := ⟨_, rfl⟩
  rw [← hQ]
  have HQ := Lib.hid hQ
  obtain ⟨n, hn⟩ : ∃ n, n = s.gs.length := ⟨_, rfl⟩
  obtain ⟨ga, gn, gc, rfl⟩ := own_slice3 h.row
  have hgn : gn = n := by
    have := SlC.of_owns h.row
    obtain ⟨a, c, e, -⟩ := this
    simp at e
    rw [hn]; exact e.2.1
  subst hgn
  obtain ⟨op, ga', gb'⟩ := g
  have H := Lib.hid (And.intro h (And.intro hg hn))
  have hlen := h.wf.len
  rw [← hn] at hlen
  have hX := BoxV.of_row (heap_alloc_last w (.cells #[.int .i64 (op : Int), .int .i64 (ga' : Int), .int .i64 (gb' : Int)] 62))
  have hE : Ext w (w.alloc (.cells #[.int .i64 (op : Int), .int .i64 (ga' : Int), .int .i64 (gb' : Int)] 62)) := (Ext.refl w).alloc _
  clear hQ h hg hn
  go_enter Tryz.func44, Tryz.ntmps44
  go_upto_region 1 with fail
  obtain ⟨X, hXd⟩ : ∃ X, X = w.heap.size := ⟨_, rfl⟩
  rw [← hXd] at hX ⊢
  have H1 := Lib.hid (And.intro (H.out.1.next hE) (And.intro hE hXd))
  generalize w.alloc (.cells #[.int .i64 (op : Int), .int .i64 (ga' : Int), .int .i64 (gb' : Int)] 62) = w1 at hX hE H1 ⊢
  clear hXd hE
  have x0 := hX.cells 0 _ rfl
  have x1 := hX.cells 1 _ rfl
  have x2 := hX.cells 2 _ rfl
  have hlX := hX.lt
  have p0 := H1.out.1.box.cells 0 _ rfl
  have p1 := H1.out.1.box.cells 1 _ rfl
  have z0 := H1.out.1.box.fz 0
  have z1 := H1.out.1.box.fz 1
  have hlN := H1.out.1.box.lt
  clear hX
  by_cases hfull : (200000 : Int) ≤ (gn : Int)
  · have hgf : gateF s ⟨op, ga', gb'⟩ = ({ s with full := true }, 0) := by unfold gateF; rw [if_pos (by have := H.out.2.2; omega)]
    have HP := Lib.hid (H1.out.1.put (s' := { s with full := true }) 1 (.bool true) ((H1.out.1.box.put 1 (.bool true)).cast rfl) rfl rfl ⟨H.out.1.wf.len, H.out.1.wf.zero, H.out.1.wf.seen, H.out.1.wf.keys, H.out.1.wf.nod, H.out.1.wf.ab⟩)
    have HGF := Lib.hid hgf
    clear hgf
    go_wp2
    rw [HQ.out, HGF.out]
    exact ⟨rfl, _, HP.out.1, (Stp.of_ext H1.out.2.1).trans HP.out.2⟩
  · go_wp2
    have hlt : s.gs.length < 200000 := by have := H.out.2.2; omega
    refine wp_region_noPanic ?_
    refine hd_begin (S := fun w' => w'.cell? ⟨N, 0, none⟩ = some (.slice ga gn gc) ∧ w'.cell? ⟨X, 0, none⟩ = some (.int .i64 (op : Int)) ∧ w'.cell? ⟨X, 1, none⟩ = some (.int .i64 (ga' : Int)) ∧ w'.cell? ⟨X, 2, none⟩ = some (.int .i64 (gb' : Int))) 9 (by kernel_rfl) (by kernel_rfl) ⟨p0, x0, x1, x2⟩ (fun hHeld => ?_)
    refine hd_take (i := 0) (v := .pointer (some ⟨N, 0, none⟩)) rfl (by kernel_rfl) (by kernel_rfl) (fun _ _ _ h => h) (Or.inl ⟨by rfl, fun w' hSw => by obtain ⟨h0, h1, h2, h3⟩ := hSw; go_simp⟩) hHeld ?_
    try simp only [Act.put, List.setIfInBounds_toArray, List.set_cons_zero, List.set_cons_succ]
    refine hd_take (i := 1) (v := .pointer (some ⟨N, 0, none⟩)) rfl (by kernel_rfl) (by kernel_rfl) (fun _ _ _ h => h) (Or.inl ⟨by rfl, fun w' hSw => by obtain ⟨h0, h1, h2, h3⟩ := hSw; go_simp⟩) hHeld ?_
    try simp only [Act.put, List.setIfInBounds_toArray, List.set_cons_zero, List.set_cons_succ]
    refine hd_take (i := 2) (v := .pointer (some ⟨N, 0, none⟩)) rfl (by kernel_rfl) (by kernel_rfl) (fun _ _ _ h => h) (Or.inl ⟨by rfl, fun w' hSw => by obtain ⟨h0, h1, h2, h3⟩ := hSw; go_simp⟩) hHeld ?_
    try simp only [Act.put, List.setIfInBounds_toArray, List.set_cons_zero, List.set_cons_succ]
    refine hd_take (i := 3) (v := .pointer (some ⟨N, 0, none⟩)) rfl (by kernel_rfl) (by kernel_rfl) (fun _ _ _ h => h) (Or.inl ⟨by rfl, fun w' hSw => by obtain ⟨h0, h1, h2, h3⟩ := hSw; go_simp⟩) hHeld ?_
    try simp only [Act.put, List.setIfInBounds_toArray, List.set_cons_zero, List.set_cons_succ]
    refine hd_take (i := 4) (v := .pointer (some ⟨N, 0, none⟩)) rfl (by kernel_rfl) (by kernel_rfl) (fun _ _ _ h => h) (Or.inl ⟨by rfl, fun w' hSw => by obtain ⟨h0, h1, h2, h3⟩ := hSw; go_simp⟩) hHeld ?_
    try simp only [Act.put, List.setIfInBounds_toArray, List.set_cons_zero, List.set_cons_succ]
    refine hd_take (i := 5) (v := .slice ga gn gc) rfl (by kernel_rfl) (by kernel_rfl) (fun _ _ _ h => h) (Or.inl ⟨by rfl, fun w' hSw => by obtain ⟨h0, h1, h2, h3⟩ := hSw; go_simp⟩) hHeld ?_
    try simp only [Act.put, List.setIfInBounds_toArray, List.set_cons_zero, List.set_cons_succ]
    refine hd_take (i := 6) (v := .agg #[.int .i64 (op : Int), .int .i64 (ga' : Int), .int .i64 (gb' : Int)]) rfl (by kernel_rfl) (by kernel_rfl) (fun _ _ _ h => h) (Or.inl ⟨by rfl, fun w' hSw => by obtain ⟨h0, h1, h2, h3⟩ := hSw; go_simp⟩) hHeld ?_
    try simp only [Act.put, List.setIfInBounds_toArray, List.set_cons_zero, List.set_cons_succ]
    have hB0 : GB W N M (.slice ga gn gc) s w1.drew := H1.out.1.next (Ext.refl w1).drew
    have hE0 : Ext w w1.drew := H1.out.2.1.drew
    have hXlt : X < w1.drew.heap.size := hlX
    generalize w1.drew = wd at hB0 hE0 hHeld hXlt ⊢
    have hE1 : Ext wd (wd.alloc (.cells #[.int .i64 (op : Int), .int .i64 (ga' : Int), .int .i64 (gb' : Int)] 62)) := (Ext.refl wd).alloc _
    have hB1 := hB0.next hE1
    have hS1 : ∀ b o u, wd.cell? ⟨b, o, none⟩ = some u → (wd.alloc (.cells #[.int .i64 (op : Int), .int .i64 (ga' : Int), .int .i64 (gb' : Int)] 62)).cell? ⟨b, o, none⟩ = some u := fun b o u h => hE1.cell h
    refine hd_one (i := 7) rfl (by kernel_rfl) (by decide) (fun K hK => ?_)
    go_simp
    refine hK.out _ _ ⟨hS1 _ _ _ hHeld.1, hS1 _ _ _ hHeld.2.1, hS1 _ _ _ hHeld.2.2.1, hS1 _ _ _ hHeld.2.2.2⟩ (fun hHeld1 => ?_)
    clear hK K
    try simp only [Act.put, List.setIfInBounds_toArray, List.set_cons_zero, List.set_cons_succ]
    refine hd_one (i := 8) rfl (by kernel_rfl) (by decide) (fun K hK => ?_)
    refine step_append_slc _ rfl (.tmp 20) (.tmp 22) 26 rfl W.heap.size 62 (.agg #[.int .i64 0, .int .i64 0, .int .i64 0]) 3 24 Tryz.underlying26 infoGate rfl (by decide) (.slice ga gn gc) gn (gcells s.gs) rfl (by have := hB1.row; rw [← H.out.2.2] at this; exact this) _ 1 (gcell ⟨op, ga', gb'⟩) rfl (SlC.fresh _ #[.int .i64 (op : Int), .int .i64 (ga' : Int), .int .i64 (gb' : Int)] _ 1 _ (by simp) (by decide)) rfl (by simp [Value.oneCell', gcell]) (by unfold maxLen; omega) (by omega) hB1.ext.size ?_
    intro v3 w6 hown3 hg3 hat3
    obtain ⟨x3, y3, z3, rfl⟩ := own_slice3 hown3
    have HP := Lib.hid (hB1.push (g := ⟨op, ga', gb'⟩) hlt H.out.2.1 hg3 (by rw [← H.out.2.2]; exact hown3) hat3)
    have hkS : Kb (Value.slice ga gn gc).ownBlock.toList (wd.alloc (.cells #[.int .i64 (op : Int), .int .i64 (ga' : Int), .int .i64 (gb' : Int)] 62)) w6 := Kb.grown hg3 (fun g hg => Option.mem_toList.2 hg)
    have hXn : X ∉ (Value.slice ga gn gc).ownBlock.toList := fun e => by
      have h1 := (H.out.1.row.lt X (Option.mem_toList.1 e)).2
      have h2 := H1.out.2.2
      omega
    refine hK.out _ _ ⟨HP.out.1.cells 0 _ rfl, hkS.cell hXn hHeld1.2.1, hkS.cell hXn hHeld1.2.2.1, hkS.cell hXn hHeld1.2.2.2⟩ (fun hHeld2 => ?_)
    clear hK K
    try simp only [Act.put, List.setIfInBounds_toArray, List.set_cons_zero, List.set_cons_succ]
    refine hd_end (by kernel_rfl) ?_
    simp only [List.drop_succ_cons, List.drop_zero]
    have r0 := HP.out.1.cells 0 _ rfl
    have rf := HP.out.1.fz 0
    have rl := HP.out.1.lt
    have HS := Lib.hid ((Stp.of_ext (N := N) (M := M) (gv := .slice ga gn gc) (hE0.trans hE1)).trans HP.out.2.2)
    have hgf : gateF s ⟨op, ga', gb'⟩ = ({ s with gs := s.gs ++ [⟨op, ga', gb'⟩] }, 2 * s.gs.length) := by unfold gateF; rw [if_neg (by omega)]
    have HGF := Lib.hid hgf
    have HB2 := Lib.hid HP.out.2.1
    have hrow := HP.out.2.1.row
    rw [hgf] at hrow
    have hy : y3 = gn + 1 := by
      obtain ⟨a, c, e, -⟩ := SlC.of_owns hrow
      simp at e
      have := H.out.2.2
      omega
    subst hy
    clear hown3 hg3 hat3 hHeld hHeld1 hHeld2 hrow hgf hkS hB0 hE0 hB1 hE1 hS1 HP p0 p1 x0 x1 x2 z0 z1 hlN hlX hXlt
    go_wp2_with fail
    refine NoPanic.normal ?_
    go_wp2
    rw [HQ.out, HGF.out]
    refine ⟨?_, _, by have := HB2.out; rw [HGF.out] at this; exact this, HS.out⟩
    have := H.out.2.2
    congr 2
    simp
    omega
end Go.Proofs.YtdjnekcpeaadhaaGreat
namespace Go.Proofs.YtdjnekcpeaadhaaGreat
open Go.RowKit Go.Maps
set_option linter.unusedSimpArgs false
set_option linter.unusedVariables false
set_option maxRecDepth 100000

set_option maxHeartbeats 4000000 in
theorem zero_any (W w : World) (N M : Nat) (gv : Value) (s : BSt) (h : GB W N M gv s w) :
    Calls Tryz.prog 83 #[.pointer (some ⟨N, 0, none⟩)] w (RetW W N M gv (zeroF s) w) := by
  obtain ⟨Q, hQ⟩ : ∃ Q, Q = RetW W N M gv (zeroF s) w := ⟨_, rfl⟩
  rw [← hQ]
  have HQ := Lib.hid hQ
  have H := Lib.hid h
  have p3 := h.box.cells 3 _ rfl
  have z3 := h.box.fz 3
  have hlN := h.box.lt
  clear hQ
  cases hz : s.zero with
  | some z =>
    have hzf : zeroF s = (s, z) := by unfold zeroF; rw [hz]
    have HZF := Lib.hid hzf
    rw [hz] at p3
    replace p3 : w.cell? ⟨N, 3, none⟩ = some (.int .i64 (z : Int)) := p3
    have hn : ¬ (z : Int) < 0 := by omega
    clear hz h hzf
    go_enter Tryz.func83, Tryz.ntmps83
    go_wp2
    rw [HQ.out, HZF.out]
    exact ⟨rfl, gv, H.out, Stp.refl _ _ _ _⟩
  | none =>
    obtain ⟨r, hr⟩ : ∃ r, r = gateF s ⟨1, 0, 0⟩ := ⟨_, rfl⟩
    have hzf : zeroF s = ({ r.1 with zero := some r.2 }, r.2) := by unfold zeroF; rw [hz, hr]
    have hw := (zeroF_wf h.wf).1
    rw [hzf] at hw
    have HZF := Lib.hid (And.intro hzf hw)
    have HG : Hid (Calls Tryz.prog 44 #[.pointer (some ⟨N, 0, none⟩), .agg #[.int .i64 1, .int .i64 0, .int .i64 0]] w (RetW W N M gv r w)) := Lib.hid (by rw [hr]; exact gate_any W w N M gv s ⟨1, 0, 0⟩ h (by unfold WB; simp))
    rw [hz] at p3
    replace p3 : w.cell? ⟨N, 3, none⟩ = some (.int .i64 (-1)) := p3
    clear hz h hzf hw hr
    go_enter Tryz.func83, Tryz.ntmps83
    go_upto_region 3 with (go_at_call 44; refine HG.out.mono ?_; rintro e w1 ⟨rfl, gv1, hB1, hS1⟩; have HP := Lib.hid (And.intro (hB1.put (s' := { r.1 with zero := some r.2 }) 3 (.int .i64 (r.2 : Int)) ((hB1.box.put 3 (.int .i64 (r.2 : Int))).cast rfl) rfl rfl HZF.out.2) hS1); have z3' := hB1.box.fz 3; have p3' := hB1.box.cells 3 _ rfl; have hl' := hB1.box.lt; clear hB1 hS1 p3 z3 hlN)
    have q3 := HP.out.1.1.box.cells 3 _ rfl
    go_wp2
    rw [HQ.out, HZF.out.1]
    exact ⟨rfl, gv1, HP.out.1.1, HP.out.2.trans HP.out.1.2⟩
set_option maxHeartbeats 4000000 in
theorem const_any (W w : World) (N M : Nat) (gv : Value) (s : BSt) (one : Bool) (h : GB W N M gv s w) :
    Calls Tryz.prog 102 #[.pointer (some ⟨N, 0, none⟩), .bool one] w (RetW W N M gv (constF s one) w) := by
  obtain ⟨Q, hQ⟩ : ∃ Q, Q = RetW W N M gv (constF s one) w := ⟨_, rfl⟩
  rw [← hQ]
  have HQ := Lib.hid hQ
  obtain ⟨r, hr⟩ : ∃ r, r = zeroF s := ⟨_, rfl⟩
  have HZ := Lib.hid (zero_any W w N M gv s h)
  have fr := bits_flip r.2 (by rw [hr]; exact (zeroF_wf h.wf).2)
  rw [← hr] at HZ
  have HR := Lib.hid hr
  clear hQ h hr
  cases one
  all_goals
    go_enter Tryz.func102, Tryz.ntmps102
    go_wp2_with (go_at_call 83; refine HZ.out.mono ?_; rintro e w1 ⟨rfl, gv1, hB1, hS1⟩; have HP := Lib.hid (And.intro hB1 hS1); clear hB1 hS1)
    rw [HQ.out]
    unfold constF
    rw [← HR.out]
    exact ⟨rfl, gv1, HP.out⟩
set_option maxHeartbeats 4000000 in
theorem input_any (W w : World) (N M : Nat) (gv : Value) (s : BSt) (h : GB W N M gv s w) :
    Calls Tryz.prog 36 #[.pointer (some ⟨N, 0, none⟩)] w (RetW W N M gv (inputF s) w) := by
  obtain ⟨Q, hQ⟩ : ∃ Q, Q = RetW W N M gv (inputF s) w := ⟨_, rfl⟩
  rw [← hQ]
  have HQ := Lib.hid hQ
  obtain ⟨r, hr⟩ : ∃ r, r = inputF s := ⟨_, rfl⟩
  have HG : Hid (Calls Tryz.prog 44 #[.pointer (some ⟨N, 0, none⟩), .agg #[.int .i64 2, .int .i64 0, .int .i64 0]] w (RetW W N M gv r w)) := Lib.hid (by rw [hr]; exact gate_any W w N M gv s ⟨2, 0, 0⟩ h (by unfold WB; simp))
  have HR := Lib.hid hr
  clear hQ h hr
  go_enter Tryz.func36, Tryz.ntmps36
  go_wp2_with (go_at_call 44; refine HG.out.mono ?_; rintro e w1 ⟨rfl, gv1, hB1, hS1⟩; have HP := Lib.hid (And.intro hB1 hS1); clear hB1 hS1)
  rw [HQ.out, ← HR.out]
  exact ⟨rfl, gv1, HP.out⟩
end Go.Proofs.YtdjnekcpeaadhaaGreat

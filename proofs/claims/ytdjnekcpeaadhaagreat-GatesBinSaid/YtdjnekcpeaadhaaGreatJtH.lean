/-
  The maker's walks: quotients.
  Condition: the maker and the lists lie in memory.
  What the walk of parts keeps.
  No condition.
  The walk of parts.
  Condition: the maker and the lists lie in memory.
  The maker's walks: quotients and rests out of parts.
  Condition: the maker and the lists lie in memory; what parts tells.
  The maker's walks: quotients and rests with a sign.
  Condition: the maker and the lists lie in memory; what parts tells.
  The maker's walks: quotients and rests.
  Condition: the maker and the lists lie in memory.
-/
import Derived.Test.YtdjnekcpeaadhaaGreatJtG
namespace Go.Proofs.YtdjnekcpeaadhaaGreat
open Go.RowKit Go.Maps
set_option linter.unusedSimpArgs false
set_option linter.unusedVariables false
set_option maxRecDepth 100000

/-- What a division tells. -/
def RetP (W : World) (N M : Nat) (gv : Value) (r : BSt × List Nat × List Nat) (w : World) (e : Ending) (w' : World) : Prop :=
  ∃ a c a2 c2 gv', e = .returned (.tuple #[.slice a r.2.1.length c, .slice a2 r.2.2.length c2]) ∧ Hid (GB W N M gv' r.1 w' ∧ Stp N M gv gv' w w' ∧ WL (Bs N M gv') w' (.slice a r.2.1.length c) r.2.1 ∧ WL (Bs N M gv') w' (.slice a2 r.2.2.length c2) r.2.2)
/-- A list apart from block g. -/
def WG (g : Nat) (bs : List Nat) (w : World) (v : Value) (l : List Nat) : Prop := WL bs w v l ∧ (l ≠ [] → v.ownBlock ≠ some g)
theorem WG.step {g N M : Nat} {gv gv' v : Value} {w w' : World} {l : List Nat} (h : WG g (Bs N M gv) w v l) (hs : Stp N M gv gv' w w') : WG g (Bs N M gv') w' v l := ⟨h.1.step hs, h.2⟩
theorem WG.ext {g : Nat} {bs : List Nat} {v : Value} {w w' : World} {l : List Nat} (h : WG g bs w v l) (hx : Ext w w') : WG g bs w' v l := ⟨h.1.ext hx, h.2⟩
theorem WG.set {g j : Nat} {bs : List Nat} {v u : Value} {w : World} {l : List Nat} (h : WG g bs w v l) : WG g bs (w.setCell ⟨g, j, none⟩ u) v l :=
  ⟨⟨h.1.1.kb0 (Kb.set (S := [g]) w g j (by simp) u) (fun hn b hb e => by simp at hb; subst hb; exact h.2 (fun e2 => hn (by rw [e2]; rfl)) e), h.1.2⟩, h.2⟩
/-- A list that was there before block g. -/
theorem WL.apart {g N M : Nat} {gv v : Value} {w : World} {l : List Nat} (h : WL (Bs N M gv) w v l) (hg : w.heap.size ≤ g) : l ≠ [] → v.ownBlock ≠ some g := fun hn e => by
  have := h.1.lt0 (by intro e2; exact hn (by simpa [wvs] using e2)) g e
  omega
theorem WL.own_apart {g : Nat} {v : Value} {w : World} {B : Nat} {l : List Nat} (h : w.ownsRow B 3 1 v l.length (wvs l)) (hg : g < B) : l ≠ [] → v.ownBlock ≠ some g := fun _ e => by
  have := (h.lt g e).1
  omega
/-- A store into a block apart. -/
theorem VB.set {W w0 w : World} {N M X g j : Nat} {gv0 gv va vb u : Value} {sg : Bool} {a b : List Nat} {s : BSt} (h : VB W N M gv0 w0 X va vb sg a b gv s w) (hg : g ∉ Bs N M gv) (hX : g ≠ X) (hw : w0.heap.size ≤ g) (hW : W.heap.size ≤ g) (ha : a ≠ [] → va.ownBlock ≠ some g) (hb : b ≠ [] → vb.ownBlock ≠ some g) : VB W N M gv0 w0 X va vb sg a b gv s (w.setCell ⟨g, j, none⟩ u) := by
  have hk : Kb [g] w (w.setCell ⟨g, j, none⟩ u) := Kb.set w g j (by simp) u
  have hXn : X ∉ [g] := by simpa using Ne.symm hX
  refine ⟨h.gb.kb hk (fun k hk => by simp at hk; rw [hk]; exact ⟨hg, hW⟩), ⟨h.st.kb.trans_new hk (fun i hi => .inr (by simp at hi; omega)), h.st.bs⟩, ⟨hk.cell hXn h.bx.1, hk.cell hXn h.bx.2.1, hk.cell hXn h.bx.2.2.1, hk.cell hXn h.bx.2.2.2⟩, h.xb, Nat.lt_of_lt_of_le h.xl hk.size, ?_, ?_⟩
  · exact (WG.set (g := g) ⟨h.la, ha⟩).1
  · exact (WG.set (g := g) ⟨h.lb, hb⟩).1
end Go.Proofs.YtdjnekcpeaadhaaGreat
namespace Go.Proofs.YtdjnekcpeaadhaaGreat
open Go.RowKit Go.Maps
set_option linter.unusedSimpArgs false
set_option linter.unusedVariables false
set_option maxRecDepth 100000

/-- The maker, the quotient's row (block g), the rest, the divisor made wide, the dividend. -/
structure PP (W : World) (N M : Nat) (gv0 : Value) (w0 : World) (X : Nat) (va vb : Value) (sg : Bool) (a b : List Nat) (g n cq : Nat) (vx : Value) (x : List Nat) (vw : Value) (wd : List Nat) (gv : Value) (s : BSt) (q : List Nat) (vr : Value) (r : List Nat) (w : World) : Prop where
  vv : VB W N M gv0 w0 X va vb sg a b gv s w
  gB : g ∉ Bs N M gv
  gX : g ≠ X
  gw : w0.heap.size ≤ g
  gl : g < w.heap.size
  gW : W.heap.size ≤ g
  qo : w.ownsRow w0.heap.size 3 1 (.slice (some ⟨g, 0, none⟩) n cq) n (wvs q)
  ql : q.length = n
  qb : WsB q
  ra : WG g (Bs N M gv) w vr r
  rl : r.length = n + 1
  rb : WsB r
  wa : WG g (Bs N M gv) w vw wd
  wl : wd.length = n + 1
  wb : WsB wd
  xa : WG g (Bs N M gv) w vx x
  ap : a ≠ [] → va.ownBlock ≠ some g
  bp : b ≠ [] → vb.ownBlock ≠ some g
section
variable {W w0 w w' : World} {N M X g n cq : Nat} {gv0 gv gv' va vb vx vw vr vr' : Value} {sg : Bool} {a b x wd q r r' : List Nat} {s s' : BSt}
theorem PP.next (h : PP W N M gv0 w0 X va vb sg a b g n cq vx x vw wd gv s q vr r w) (hx : Ext w w') : PP W N M gv0 w0 X va vb sg a b g n cq vx x vw wd gv s q vr r w' :=
  { h with vv := h.vv.next hx, gl := Nat.lt_of_lt_of_le h.gl hx.size, qo := ownsRow_ext h.qo hx, ra := h.ra.ext hx, wa := h.wa.ext hx, xa := h.xa.ext hx }
theorem PP.call (h : PP W N M gv0 w0 X va vb sg a b g n cq vx x vw wd gv s q vr r w) (hB : GB W N M gv' s' w') (hS : Stp N M gv gv' w w') : PP W N M gv0 w0 X va vb sg a b g n cq vx x vw wd gv' s' q vr r w' :=
  { h with vv := h.vv.call hB hS, gB := fun e => (hS.bs g e).elim h.gB (fun e2 => absurd h.gl (Nat.not_lt.2 e2)), gl := Nat.lt_of_lt_of_le h.gl hS.kb.size,
           qo := hS.kb.row h.qo (fun b hb e => by simp [Value.ownBlock] at e; subst e; exact h.gB hb), ra := h.ra.step hS, wa := h.wa.step hS, xa := h.xa.step hS }
theorem PP.rest (h : PP W N M gv0 w0 X va vb sg a b g n cq vx x vw wd gv s q vr r w) (hr : WG g (Bs N M gv) w vr' r') (hl : r'.length = n + 1) (hb : WsB r') : PP W N M gv0 w0 X va vb sg a b g n cq vx x vw wd gv s q vr' r' w :=
  { h with ra := hr, rl := hl, rb := hb }
theorem wvs_set (l : List Nat) (j u : Nat) : (wvs l).set j (.int .i64 (u : Int)) = wvs (l.set j u) := by simp [wvs, List.map_set]
theorem PP.put (h : PP W N M gv0 w0 X va vb sg a b g n cq vx x vw wd gv s q vr r w) (j u : Nat) (hj : j < n) (hu : WB u) : PP W N M gv0 w0 X va vb sg a b g n cq vx x vw wd gv s (q.set j u) vr r (w.setCell ⟨g, j, none⟩ (.int .i64 (u : Int))) :=
  { h with vv := h.vv.set h.gB h.gX h.gw h.gW h.ap h.bp, gl := Nat.lt_of_lt_of_le h.gl (Kb.set (S := [g]) w g j (by simp) _).size,
           qo := by rw [← wvs_set]; exact own_set1 h.qo j hj _, ql := by rw [List.length_set]; exact h.ql, qb := h.qb.set hu j, ra := h.ra.set, wa := h.wa.set, xa := h.xa.set }
theorem PP.cell (h : PP W N M gv0 w0 X va vb sg a b g n cq vx x vw wd gv s q vr r w) (j : Nat) (hj : j < n) : ∃ u, w.cell? ⟨g, j, none⟩ = some u ∧ w.frozen? ⟨g, j, none⟩ = false := by
  have hl : j < (wvs q).length := by rw [wvs_len, h.ql]; exact hj
  exact ⟨_, own_cell1 h.qo j _ (List.getElem?_eq_getElem hl)⟩
theorem PP.cut {p : Option Addr} {c : Nat} (h : PP W N M gv0 w0 X va vb sg a b g n cq vx x vw wd gv s q (.slice p (n + 1) c) r w) (hc : n ≤ c) : SlC w (.slice p n c) n (wvs (r.take n)) := by
  rw [← wvs_take]
  have h1 := h.ra.1.1
  rw [h.rl] at h1
  exact h1.cut n c hc (Nat.le_refl _)
theorem PP.quot (h : PP W N M gv0 w0 X va vb sg a b g n cq vx x vw wd gv s q vr r w) : WL (Bs N M gv) w (.slice (some ⟨g, 0, none⟩) q.length cq) q := by
  refine ⟨?_, fun _ b hb e => by simp [Value.ownBlock] at e; subst e; exact h.gB hb⟩
  rw [h.ql]
  exact SlC.of_owns h.qo
theorem PP.done {p : Option Addr} {c : Nat} (h : PP W N M gv0 w0 X va vb sg a b g n cq vx x vw wd gv s q (.slice p (n + 1) c) r w) (hc : n ≤ c) : WL (Bs N M gv) w (.slice p (r.take n).length n) (r.take n) := by
  have h1 := h.ra.1
  have hl : (r.take n).length = n := by have := h.rl; rw [List.length_take]; omega
  have h2 := h1.1
  rw [h.rl] at h2
  refine ⟨?_, fun hn b hb e => h1.2 (by rintro rfl; simp at hn) b hb (by cases p with | none => cases e | some _ => exact e)⟩
  rw [hl, ← wvs_take]
  exact h2.cut n n (Nat.le_refl _) hc
theorem PP.caps {p : Option Addr} {k c : Nat} (h : PP W N M gv0 w0 X va vb sg a b g n cq vx x vw wd gv s q (.slice p k c) r w) : ∃ br o, p = some ⟨br, o, none⟩ ∧ k = n + 1 ∧ n + 1 ≤ c ∧ (c : Int) ≤ 9223372036854775807 := by
  obtain ⟨u, hu⟩ : ∃ u, r[0]? = some u := ⟨_, List.getElem?_eq_getElem (by have := h.rl; omega)⟩
  obtain ⟨b6, o6, e6, -, -, -⟩ := h.ra.1.get hu
  obtain ⟨a', c', e, h1, h2, -⟩ := h.ra.1.1
  simp only [Value.slice.injEq] at e
  obtain ⟨-, h3, h4⟩ := e
  have h5 := h.rl
  unfold maxLen at h2
  exact ⟨b6, o6, e6, by omega, by omega, by omega⟩
theorem PP.cons {u : Nat} {p : Option Addr} {c k : Nat} (h : PP W N M gv0 w0 X va vb sg a b g n cq vx x vw wd gv s q vr r w) (hx : Ext w w') (ho : w'.ownsRow w.heap.size 3 1 (.slice p k c) (1 + n) ([.int .i64 (u : Int)] ++ wvs (r.take n))) (hu : WB u) : k = n + 1 ∧ PP W N M gv0 w0 X va vb sg a b g n cq vx x vw wd gv s q (.slice p (n + 1) c) (u :: r.take n) w' := by
  have hk : k = n + 1 := by
    obtain ⟨a', c', e, -⟩ := SlC.of_owns ho
    simp only [Value.slice.injEq] at e
    omega
  subst hk
  have hl := h.rl
  refine ⟨rfl, (h.next hx).rest ⟨WL.app (l := [u]) (m := r.take n) (w := w) (by simp; omega) ho h.vv.gb.lts, fun _ e => ?_⟩ (by simp; omega) (WsB.cons hu (h.rb.take n))⟩
  have h1 := (ho.lt g e).1
  have h2 := h.gl
  omega
end
end Go.Proofs.YtdjnekcpeaadhaaGreat
namespace Go.Proofs.YtdjnekcpeaadhaaGreat
open Go.RowKit Go.Maps
set_option linter.unusedSimpArgs false
set_option linter.unusedVariables false
set_option maxRecDepth 100000

set_option maxHeartbeats 8000000 in
theorem vparts_any (W w : World) (N M : Nat) (gv va vb : Value) (sg : Bool) (s : BSt) (a b : List Nat) (vx : Value) (x : List Nat) (vy : Value) (y : List Nat) (h : GB W N M gv s w) (ha : WL (Bs N M gv) w va a) (hb : WL (Bs N M gv) w vb b) (hx : WL (Bs N M gv) w vx x) (hwx : WsB x) (hnx : x.length ≤ 64) (h0 : 0 < x.length) (hy : WL (Bs N M gv) w vy y) (hwy : WsB y) (hny : y.length ≤ 64) (hxy : x.length ≤ y.length) :
    Calls Tryz.prog 88 #[.agg #[.pointer (some ⟨N, 0, none⟩), va, vb, .bool sg], vx, vy] w (RetP W N M gv (partsF s x y) w) := by
  obtain ⟨R, hR⟩ : ∃ R, R = partsF s x y := ⟨_, rfl⟩
  rw [← hR]
  obtain ⟨Q, hQ⟩ : ∃ Q, Q = RetP W N M gv R w := ⟨_, rfl⟩
  rw [← hQ]
  have HQ := Lib.hid hQ
  have HV1 := Lib.hid (VB.start (sg := sg) h ha hb)
  have hmf := mf_run
  obtain ⟨px, cx, rfl, hxc, hxm, -⟩ := id hx.1
  obtain ⟨x0, hx0⟩ : ∃ u, x[0]? = some u := ⟨_, List.getElem?_eq_getElem h0⟩
  obtain ⟨bx, ox, rfl, -, -, -⟩ := hx.get hx0
  clear hx0
  have HAB := Lib.hid (And.intro ha (And.intro hb h.ext.size))
  obtain ⟨py, cy, rfl, hyc, hym, -⟩ := id hy.1
  obtain ⟨n, hnn⟩ : ∃ n, n = x.length := ⟨_, rfl⟩
  obtain ⟨z, hz⟩ : ∃ z, z = zeroF s := ⟨_, rfl⟩
  obtain ⟨z2, hz2⟩ : ∃ q, q = zeroF z.1 := ⟨_, rfl⟩
  obtain ⟨z3, hz3⟩ : ∃ q, q = zeroF z2.1 := ⟨_, rfl⟩
  have wz : BWf z.1 ∧ WB z.2 := by rw [hz]; exact zeroF_wf h.wf
  have wz2 : BWf z2.1 ∧ WB z2.2 := by rw [hz2]; exact zeroF_wf wz.1
  have wz3 : BWf z3.1 ∧ WB z3.2 := by rw [hz3]; exact zeroF_wf wz2.1
  have HRR : Hid (R = (let r := divG n z3.1 x (y.take n ++ [z3.2]) (List.replicate n z.2) (List.replicate (n + 1) z2.2); (r.1, r.2.1, r.2.2.take n))) := Lib.hid (by rw [hR, hnn, hz3, hz2, hz]; rfl)
  have HXY := Lib.hid (And.intro hx (And.intro hy (And.intro hwx (And.intro hwy (And.intro wz (And.intro wz2 wz3))))))
  have HZ1 : Hid (∀ gv1 w1, GB W N M gv1 s w1 → Calls Tryz.prog 83 #[.pointer (some ⟨N, 0, none⟩)] w1 (RetW W N M gv1 z w1)) := Lib.hid (fun gv1 w1 h1 => by rw [hz]; exact zero_any W w1 N M gv1 s h1)
  have HZ2 : Hid (∀ gv1 w1, GB W N M gv1 z.1 w1 → Calls Tryz.prog 83 #[.pointer (some ⟨N, 0, none⟩)] w1 (RetW W N M gv1 z2 w1)) := Lib.hid (fun gv1 w1 h1 => by rw [hz2]; exact zero_any W w1 N M gv1 z.1 h1)
  have HZ3 : Hid (∀ gv1 w1, GB W N M gv1 z2.1 w1 → Calls Tryz.prog 83 #[.pointer (some ⟨N, 0, none⟩)] w1 (RetW W N M gv1 z3 w1)) := Lib.hid (fun gv1 w1 h1 => by rw [hz3]; exact zero_any W w1 N M gv1 z2.1 h1)
  have HF1 : Hid (∀ w1, Calls Tryz.prog 85 #[.int .i64 (n : Int), .int .i64 (z.2 : Int)] w1 fun e w' => ∃ q c, e = .returned (.slice q n c) ∧ Hid (RowF w1 w' (.slice q n c) (List.replicate n z.2))) := Lib.hid (fun w1 => fill_any n z.2 w1 (by omega))
  have HF2 : Hid (∀ w1, Calls Tryz.prog 85 #[.int .i64 ((n : Int) + 1), .int .i64 (z2.2 : Int)] w1 fun e w' => ∃ q c, e = .returned (.slice q (n + 1) c) ∧ Hid (RowF w1 w' (.slice q (n + 1) c) (List.replicate (n + 1) z2.2))) := Lib.hid (fun w1 => by
    have h9 := fill_any (n + 1) z2.2 w1 (by omega)
    rw [show ((n + 1 : Nat) : Int) = (n : Int) + 1 by omega] at h9
    exact h9)
  have HNN := Lib.hid hnn
  rw [← hnn] at hxc hnx h0 hxy ⊢
  have hw1 : IntKind.i64.wrap ((n : Int) + 1) = (n : Int) + 1 := IntWalk.i64_in _ (by omega)
  have hcI : (cx : Int) ≤ 9223372036854775807 := by unfold maxLen at hxm; omega
  have hcJ : (cy : Int) ≤ 9223372036854775807 := by unfold maxLen at hym; omega
  clear hx hy hwx hwy hxm hym hnn hz hz2 hz3 wz wz2 wz3
  obtain ⟨X, hX⟩ : ∃ X, X = w.heap.size := ⟨_, rfl⟩
  rw [← hX] at HV1
  clear hQ h ha hb hR
  go_enter Tryz.func88, Tryz.ntmps88
  go_upto_region 1 with fail
  rw [← hX]
  clear hX
  generalize w.alloc (.cells #[.pointer (some ⟨N, 0, none⟩), va, vb, .bool sg] 71) = w1 at HV1 ⊢
  obtain ⟨p0, p1, p2, p3⟩ := HV1.out.bx
  have hlX := HV1.out.xl
  go_upto_region 2 with fail
  have HV2 := Lib.hid (HV1.out.next (Ext.refl w1).drew)
  go_region_held3 (fun w' => w'.cell? ⟨X, 0, none⟩ = some (.pointer (some ⟨N, 0, none⟩)) ∧ w'.cell? ⟨X, 1, none⟩ = some va ∧ w'.cell? ⟨X, 2, none⟩ = some vb ∧ w'.cell? ⟨X, 3, none⟩ = some (.bool sg))
    (first | exact ⟨p0, p1, p2, p3⟩ | exact HV3.out.bx | exact HV4.out.bx | exact HV5.out.bx | exact HV6.out.bx)
    (first | (go_at_call 83; first | (refine (HZ2.out gv3 _ HV4.out.gb).mono ?_; rintro e w5 ⟨rfl, gv5, hB5, hS5⟩; have HV5 := Lib.hid (HV4.out.call hB5 hS5); have HS5 := Lib.hid hS5; clear hB5 hS5) | (refine (HZ1.out gv _ HV2.out.gb).mono ?_; rintro e w3 ⟨rfl, gv3, hB3, hS3⟩; have HV3 := Lib.hid (HV2.out.call hB3 hS3); clear hB3 hS3)) | (go_at_call 85; first | (have hv5 := HV5.out.xl; clear hv5; refine (HF2.out _).mono ?_; rintro e w6 ⟨q6, c6, rfl, H6⟩; have HV6 := Lib.hid (HV5.out.next H6.out.ext)) | (refine (HF1.out _).mono ?_; rintro e w4 ⟨q4, c4, rfl, H4⟩; have HV4 := Lib.hid (HV3.out.next H4.out.ext))))
  have hqn : ∃ g, q4 = some ⟨g, 0, none⟩ ∧ w3.heap.size ≤ g ∧ g < w4.heap.size := by
    have h9 := H4.out.own
    simp only [List.length_replicate] at h9
    rcases h9.2 with ⟨_, h8⟩ | ⟨g, cap', cur, e, h8, h7, _⟩
    · omega
    · simp only [Value.slice.injEq] at e
      exact ⟨g, e.1, h8, (Array.getElem?_eq_some_iff.1 h7).1⟩
  obtain ⟨g, rfl, hg3, hg4⟩ := hqn
  have hgB : g ∉ Bs N M gv5 := fun e => (HS5.out.bs g e).elim (fun e2 => by have := HV3.out.gb.lts g e2; omega) (fun e2 => absurd hg4 (Nat.not_lt.2 e2))
  have hgX : g ≠ X := fun e => by have := HV3.out.xl; omega
  have hgw : w.heap.size ≤ g := Nat.le_trans HV3.out.st.kb.size hg3
  have hqo : w6.ownsRow w.heap.size 3 1 (.slice (some ⟨g, 0, none⟩) n c4) n (wvs (List.replicate n z.2)) := by
    have h9 := own_base H4.out.own HV3.out.st.kb.size
    simp only [List.length_replicate] at h9
    refine ownsRow_ext (HS5.out.kb.row h9 (fun b hb e => ?_)) H6.out.ext
    simp [Value.ownBlock] at e
    subst e
    have := HV4.out.gb.lts _ hb
    exact absurd (HV3.out.gb.lts _ hb) (by omega)
  have hrg : (Value.slice q6 (n + 1) c6).ownBlock ≠ some g := fun e => by
    have h9 := (H6.out.own.lt g e).1
    have := HS5.out.kb.size
    omega
  have hg6 : g < w6.heap.size := Nat.lt_of_lt_of_le hg4 (Nat.le_trans HS5.out.kb.size H6.out.ext.size)
  have HG := Lib.hid (And.intro hgB (And.intro hgX (And.intro hgw (And.intro hqo (And.intro hrg hg6)))))
  have HRS := Lib.hid (show WL (Bs N M gv5) w6 (.slice q6 (n + 1) c6) (List.replicate (n + 1) z2.2) from by
    have h9 := H6.out.wl HV5.out.gb.lts
    exact h9)
  clear hgB hgX hgw hqo hrg hg3 hg4 hg6 p0 p1 p2 p3 hlX
  have hlX := HV6.out.xl
  obtain ⟨p0, p1, p2, p3⟩ := HV6.out.bx
  have hz0 : (0 : Int) ≤ (n : Int) := by omega
  have hzc : (n : Int) ≤ (cy : Int) := by omega
  have HV7 := Lib.hid (HV6.out.next (Ext.refl w6).drew)
  have HYC : Hid (∀ g1 s1 w1, VB W N M gv w X va vb sg a b g1 s1 w1 → SlC w1 (.slice py n n) n (wvs (y.take n))) := Lib.hid (fun g1 s1 w1 hv => by
    have h1 := (HXY.out.2.1.step hv.st).1
    rw [← wvs_take]
    obtain ⟨a', cap, e, h2, h3, h4⟩ := h1
    simp only [Value.slice.injEq] at e
    obtain ⟨rfl, -, rfl⟩ := e
    refine ⟨py, n, rfl, Nat.le_refl _, by omega, fun j u hu => h4 j u ?_⟩
    rw [List.getElem?_take] at hu
    split at hu
    · exact hu
    · cases hu)
  have HYL : Hid ((wvs (y.take n)).length = n) := Lib.hid (by rw [wvs_len, List.length_take]; omega)
  have HOC : Hid (∀ u ∈ [Value.int .i64 (z3.2 : Int)], u.oneCell' = true) := Lib.hid (by simp [Value.oneCell'])
  have HLE : Hid (n + 1 ≤ 1000000) := Lib.hid (by omega)
  go_upto_region 3 with fail
  go_region_held3 (fun w' => w'.cell? ⟨X, 0, none⟩ = some (.pointer (some ⟨N, 0, none⟩)) ∧ w'.cell? ⟨X, 1, none⟩ = some va ∧ w'.cell? ⟨X, 2, none⟩ = some vb ∧ w'.cell? ⟨X, 3, none⟩ = some (.bool sg))
    (first | exact ⟨p0, p1, p2, p3⟩ | exact HV8.out.bx | exact (HV8.out.next ((Ext.refl w8).alloc _)).bx | exact HV9.out.bx)
    (first | (go_at_call 83; refine (HZ3.out gv5 _ HV7.out.gb).mono ?_; rintro e w8 ⟨rfl, gv8, hB8, hS8⟩; have HV8 := Lib.hid (HV7.out.call hB8 hS8); have HS8 := Lib.hid ((Stp.of_ext (N := N) (M := M) (gv := gv5) (Ext.refl w6).drew).trans hS8); clear hB8 hS8) | (refine step_append_full rfl (.tmp 29) (.tmp 33) rfl _ n (wvs (y.take n)) rfl (HYC.out _ _ _ (HV8.out.next ((Ext.refl w8).alloc (.cells #[.int .i64 (z3.2 : Int)] 3)))) HYL.out _ 1 [.int .i64 (z3.2 : Int)] rfl (SlC.fresh _ #[.int .i64 (z3.2 : Int)] _ 1 _ (by simp) (by decide)) rfl HOC.out (Nat.lt_succ_self 0) HLE.out ?_; intro v9 w9 hown9 hg9; obtain ⟨x9, y9, z9, rfl⟩ := own_slice3 hown9; have hE9 : Ext w8 w9 := Ext.trans ((Ext.refl w8).alloc (.cells #[.int .i64 (z3.2 : Int)] 3)) (ext_grown_nil hg9); have HV9 := Lib.hid (HV8.out.next hE9); have HO9 := Lib.hid (And.intro (own_base hown9 ((Ext.refl w8).alloc (.cells #[.int .i64 (z3.2 : Int)] 3)).size) hE9); clear hown9 hg9 hE9))
  have hy9 : y9 = n + 1 := by
    obtain ⟨a', c', e, -⟩ := SlC.of_owns HO9.out.1
    simp only [Value.slice.injEq] at e
    exact e.2.1
  subst hy9
  obtain ⟨wd, hwd⟩ : ∃ l, l = y.take n ++ [z3.2] := ⟨_, rfl⟩
  rw [← hwd] at HRR
  have hyl : (y.take n).length = n := by have := HYL.out; rw [wvs_len] at this; exact this
  have HPP := Lib.hid (show PP W N M gv w X va vb sg a b g n c4 (.slice (some ⟨bx, ox, none⟩) n cx) x (.slice x9 (n + 1) z9) wd gv8 z3.1 (List.replicate n z.2) (.slice q6 (n + 1) c6) (List.replicate (n + 1) z2.2) w9 from
    { vv := HV9.out
      gB := fun e => (HS8.out.bs g e).elim HG.out.1 (fun e2 => absurd HG.out.2.2.2.2.2 (Nat.not_lt.2 e2))
      gX := HG.out.2.1
      gw := HG.out.2.2.1
      gl := Nat.lt_of_lt_of_le HG.out.2.2.2.2.2 (Nat.le_trans HS8.out.kb.size HO9.out.2.size)
      gW := Nat.le_trans HAB.out.2.2 HG.out.2.2.1
      qo := ownsRow_ext (HS8.out.kb.row HG.out.2.2.2.1 (fun b hb e => by simp [Value.ownBlock] at e; subst e; exact HG.out.1 hb)) HO9.out.2
      ql := by simp
      qb := WsB.rep HXY.out.2.2.2.2.1.2
      ra := ⟨(HRS.out.step HS8.out).ext HO9.out.2, fun _ => HG.out.2.2.2.2.1⟩
      rl := by simp
      rb := WsB.rep HXY.out.2.2.2.2.2.1.2
      wa := ⟨by rw [hwd]; exact WL.app (by simp; omega) HO9.out.1 HV8.out.gb.lts, fun _ e => by have h1 := (HO9.out.1.lt g e).1; have h2 := HG.out.2.2.2.2.2; have h3 := HS8.out.kb.size; omega⟩
      wl := by rw [hwd]; simp; omega
      wb := by rw [hwd]; exact (HXY.out.2.2.2.1.take n).append (WsB.one HXY.out.2.2.2.2.2.2.2)
      xa := ⟨by have h1 := HXY.out.1.step HV9.out.st; rw [← HNN.out] at h1; exact h1, HXY.out.1.apart HG.out.2.2.1⟩
      ap := HAB.out.1.apart HG.out.2.2.1
      bp := HAB.out.2.1.apart HG.out.2.2.1 })
  obtain ⟨b6, o6, rfl, -, -, -⟩ := HPP.out.ra.1.get (k := 0) (x := z2.2) (by simp [List.getElem?_replicate])
  have hc6 : n + 1 ≤ c6 ∧ (c6 : Int) ≤ 9223372036854775807 := by
    obtain ⟨a', c', e, h1, h2, -⟩ := HPP.out.ra.1.1
    simp only [Value.slice.injEq] at e
    have h3 := e.2.1
    have h4 := e.2.2
    subst h4
    unfold maxLen at h2
    omega
  have HXX : Hid (WsB x ∧ n = x.length) := Lib.hid ⟨HXY.out.2.2.1, HNN.out⟩
  have hwn : IntKind.i64.wrap ((n : Int) - 1) = (n : Int) - 1 := IntWalk.i64_in _ (by omega)
  clear hwd hyl p0 p1 p2 p3 hlX hw1
  go_wp2
  go_loopw [7, 10] (fun u i wr => ∃ (m cr br or : Nat) (q r : List Nat) (gv' : Value) (s' : BSt), m ≤ n ∧ n + 1 ≤ cr ∧ (cr : Int) ≤ 9223372036854775807 ∧ u = .slice (some ⟨br, or, none⟩) (n + 1) cr ∧ i = .int .i64 ((m : Int) - 1) ∧ Hid (PP W N M gv w X va vb sg a b g n c4 (.slice (some ⟨bx, ox, none⟩) n cx) x (.slice x9 (n + 1) z9) wd gv' s' q (.slice (some ⟨br, or, none⟩) (n + 1) cr) r wr) ∧ Hid (R = ((divG m s' x wd q r).1, (divG m s' x wd q r).2.1, (divG m s' x wd q r).2.2.take n))) (fun _ i _ => (intOf i + 1).toNat)
  case atStart => exact ⟨n, c6, b6, o6, _, _, gv8, z3.1, Nat.le_refl _, hc6.1, hc6.2, rfl, rfl, HPP, HRR⟩
  case round =>
    obtain ⟨m, cr, br, or, q, r, gv', s', hmn, hcr, hcr2, rfl, rfl, HP, HE⟩ := hrel
    cases m with
    | zero =>
      have HE2 : Hid (R = (s', q, r.take n)) := Lib.hid HE.out
      have HLT : Hid (q.length = n ∧ (r.take n).length = n) := Lib.hid ⟨HP.out.ql, by have := HP.out.rl; rw [List.length_take]; omega⟩
      have hcn : (n : Int) ≤ (cr : Int) := by omega
      have hz0 : (0 : Int) ≤ (n : Int) := by omega
      go_wp2
      go_region
      go_wp2
      rw [HQ.out, HE2.out]
      have HP5 := HP.out.next (Ext.refl wr).drew
      exact ⟨some ⟨g, 0, none⟩, c4, some ⟨br, or, none⟩, n, gv', by have e1 : (s', q, r.take n).2.1.length = n := HLT.out.1; have e2 : (s', q, r.take n).2.2.length = n := HLT.out.2; rw [e1, e2]; rfl, Lib.hid ⟨HP5.vv.gb, HP5.vv.st, HP5.quot, HP5.done (by omega)⟩⟩
    | succ m =>
      have e1 : ((m + 1 : Nat) : Int) - 1 = (m : Int) := by omega
      rw [e1]
      have hki : (0 : Int) ≤ (m : Int) := by omega
      have hmn1 : (m : Int) < (n : Int) := by omega
      obtain ⟨xm, hxm⟩ : ∃ u, x[m]? = some u := ⟨_, List.getElem?_eq_getElem (by have := HXX.out.2; omega)⟩
      obtain ⟨b2, o2, e2, hcx, hbx2, hnx⟩ := HP.out.xa.1.get hxm
      simp only [Option.some.injEq, Addr.mk.injEq] at e2
      obtain ⟨rfl, rfl, -⟩ := e2
      have hwx := HXX.out.1 xm (List.mem_of_getElem? hxm)
      have wr1 : WsB (xm :: r.take n) := WsB.cons hwx (HP.out.rb.take n)
      have wrl : (xm :: r.take n).length = n + 1 := by have := HP.out.rl; simp; omega
      obtain ⟨d, hd⟩ : ∃ d, d = lessF s' (xm :: r.take n) wd := ⟨_, rfl⟩
      have wd1 : BWf d.1 ∧ WsB d.2.1 ∧ WB d.2.2 ∧ d.2.1.length = n + 1 := by rw [hd, ← wrl]; exact lessF_wf HP.out.vv.gb.wf wr1 HP.out.wb
      obtain ⟨ch, hch⟩ : ∃ c, c = chooseF d.1 d.2.2 d.2.1 (xm :: r.take n) := ⟨_, rfl⟩
      have wc1 : BWf ch.1 ∧ WsB ch.2 ∧ ch.2.length = n + 1 := by rw [hch, ← wd1.2.2.2]; exact chooseF_wf wd1.1 wd1.2.2.1 wd1.2.1 wr1
      have HLS : Hid (∀ gv1 w1 v u, GB W N M gv1 s' w1 → WL (Bs N M gv1) w1 v (xm :: r.take n) → WL (Bs N M gv1) w1 u wd → Calls Tryz.prog 84 #[.pointer (some ⟨N, 0, none⟩), v, u] w1 (RetS W N M gv1 d w1)) := Lib.hid (fun gv1 w1 v u h1 h2 h3 => by rw [hd]; exact less_any W w1 N M gv1 v u s' _ wd h1 h2 h3 wr1 HP.out.wb (by rw [wrl, HP.out.wl]; exact Nat.le_refl _) (by rw [HP.out.wl]; omega))
      have HCH : Hid (∀ gv1 w1 v u, GB W N M gv1 d.1 w1 → WL (Bs N M gv1) w1 v d.2.1 → WL (Bs N M gv1) w1 u (xm :: r.take n) → Calls Tryz.prog 90 #[.pointer (some ⟨N, 0, none⟩), .int .i64 (d.2.2 : Int), v, u] w1 (RetO W N M gv1 ch w1)) := Lib.hid (fun gv1 w1 v u h1 h2 h3 => by rw [hch]; exact choose_own W w1 N M gv1 v u d.1 d.2.2 d.2.1 _ h1 wd1.2.2.1 h2 h3 wd1.2.1 wr1 (by rw [wd1.2.2.2, wrl]; exact Nat.le_refl _) (by rw [wd1.2.2.2]; omega))
      have HST : Hid (R = ((divG m ch.1 x wd (q.set m d.2.2) ch.2).1, (divG m ch.1 x wd (q.set m d.2.2) ch.2).2.1, (divG m ch.1 x wd (q.set m d.2.2) ch.2).2.2.take n)) := Lib.hid (by
        have h1 := HE.out
        have h2 : divG (m + 1) s' x wd q r = divG m (divS s' (x.getD m 0) r wd x.length).1 x wd (q.set m (divS s' (x.getD m 0) r wd x.length).2.1) (divS s' (x.getD m 0) r wd x.length).2.2 := rfl
        have h3 : divS s' (x.getD m 0) r wd x.length = (ch.1, d.2.2, ch.2) := by
          rw [List.getD_eq_getElem?_getD, hxm, ← HXX.out.2, hch, hd]; rfl
        rw [h2, h3] at h1
        exact h1)
      have HW1 : Hid (WsB (xm :: r.take n) ∧ (xm :: r.take n).length = n + 1 ∧ (wvs (r.take n)).length = n ∧ WB d.2.2 ∧ d.2.1.length = n + 1 ∧ WsB ch.2 ∧ ch.2.length = n + 1 ∧ WB xm) := Lib.hid ⟨wr1, wrl, by rw [wvs_len]; simpa using wrl, wd1.2.2.1, wd1.2.2.2, wc1.2.1, wc1.2.2, hwx⟩
      clear e1 hxm hnx hwx wr1 wrl hd wd1 hch wc1 HE
      have HP4 := Lib.hid (HP.out.next (Ext.refl wr).drew)
      have HCUT : Hid (∀ w1, Ext wr w1 → SlC w1 (.slice (some ⟨br, or, none⟩) n cr) n (wvs (r.take n))) := Lib.hid (fun w1 hx => (HP.out.cut (by omega)).ext hx)
      have hcn : (n : Int) ≤ (cr : Int) := by omega
      have hz0 : (0 : Int) ≤ (n : Int) := by omega
      have hcr0 : ¬ cr = 0 := by omega
      have HN0 : Hid (0 < n ∧ 1 + n ≤ 1000000) := Lib.hid ⟨by omega, by omega⟩
      have HO1 : Hid (∀ u ∈ wvs (r.take n), u.oneCell' = true) := Lib.hid (fun u hu => by obtain ⟨z, -, rfl⟩ := List.mem_map.1 hu; rfl)
      go_upto_region 7 with fail
      go_region_held3 (fun w' => w'.cell? ⟨bx, ox + m, none⟩ = some (.int .i64 (xm : Int)))
        (first | exact hcx | exact ((Ext.refl wr).alloc _).drew.cell hcx | exact (Ext.refl wr).drew.cell hcx | exact HO5.out.2.cell hcx)
        (first | (refine step_append_full rfl (.tmp 45) (.tmp 48) rfl _ 1 [.int .i64 (xm : Int)] rfl (SlC.fresh _ #[.int .i64 (xm : Int)] _ 1 _ (by simp) (by decide)) rfl _ n (wvs (r.take n)) rfl (HCUT.out _ ((Ext.refl wr).alloc (.cells #[.int .i64 (xm : Int)] 3)).drew) HW1.out.2.2.1 HO1.out HN0.out.1 HN0.out.2 ?_; intro v5 w5 hown5 hg5; obtain ⟨x5, y5, z5, rfl⟩ := own_slice3 hown5; have hE5 : Ext wr w5 := Ext.trans ((Ext.refl wr).alloc (.cells #[.int .i64 (xm : Int)] 3)).drew (ext_grown_nil hg5); have HP5 := Lib.hid (HP.out.next hE5); have HO5 := Lib.hid (And.intro (own_base hown5 ((Ext.refl wr).alloc (.cells #[.int .i64 (xm : Int)] 3)).drew.size) hE5); clear hown5 hg5 hE5))
      obtain ⟨hy5, hp6⟩ := HP.out.cons (p := x5) (k := y5) (c := z5) HO5.out.2 HO5.out.1 HW1.out.2.2.2.2.2.2.2
      subst hy5
      have HP6 := Lib.hid hp6
      have hb6 := HP6.out.vv.bx.1
      have hl6 := HP6.out.vv.xl
      have hwm : IntKind.i64.wrap ((m : Int) - 1) = (m : Int) - 1 := IntWalk.i64_in _ (by omega)
      have hmN : m < n := by omega
      clear hp6 hcx hcr0 hcr hcr2
      go_wp2_with (first | (go_at_call 84; refine (HLS.out gv' _ _ _ HP6.out.vv.gb HP6.out.ra.1 HP6.out.wa.1).mono ?_; rintro e w7 ⟨q7, c7, gv7, rfl, H7⟩; have HP7 := Lib.hid (HP6.out.call H7.out.1 H7.out.2.1); have hb7 := HP7.out.vv.bx.1; have hl7 := HP7.out.vv.xl) | (go_at_call 90; refine (HCH.out gv7 _ _ _ HP7.out.vv.gb H7.out.2.2 HP7.out.ra.1).mono ?_; rintro e w8 ⟨q8, c8, gv8, rfl, H8⟩; have HP8 := Lib.hid ((HP7.out.call H8.out.1 H8.out.2.1).rest ⟨H8.out.2.2.1, fun _ e => Nat.lt_irrefl _ (Nat.lt_of_lt_of_le HP7.out.gl (H8.out.2.2.2.lt g e).1)⟩ HW1.out.2.2.2.2.2.2.1 HW1.out.2.2.2.2.2.1); obtain ⟨u8, hc8, hf8⟩ := HP8.out.cell m hmN; have hg8 := HP8.out.gl; have hb8 := HP8.out.vv.bx.1; have hl8 := HP8.out.vv.xl))
      obtain ⟨b8, o8, rfl, e8, hc8a, hc8b⟩ := HP8.out.caps
      have HP9 := Lib.hid (HP8.out.put m d.2.2 hmN HW1.out.2.2.2.1)
      rw [HW1.out.2.2.2.2.2.2.1] at HP9 ⊢
      exact ⟨⟨m, c8, b8, o8, _, _, gv8, ch.1, by omega, hc8a, hc8b, rfl, rfl, HP9, HST⟩, by simp [intOf]⟩
end Go.Proofs.YtdjnekcpeaadhaaGreat
namespace Go.Proofs.YtdjnekcpeaadhaaGreat
open Go.RowKit Go.Maps
set_option linter.unusedSimpArgs false
set_option linter.unusedVariables false
set_option maxRecDepth 100000

/-- The contract of parts. -/
def PartsC (W : World) (N M : Nat) : Prop := ∀ (w : World) (gv va vb vx vy : Value) (sg : Bool) (s : BSt) (a b x y : List Nat), GB W N M gv s w → WL (Bs N M gv) w va a → WL (Bs N M gv) w vb b → WL (Bs N M gv) w vx x → WsB x → x.length ≤ 64 → 0 < x.length → WL (Bs N M gv) w vy y → WsB y → y.length ≤ 64 → x.length ≤ y.length →
  Calls Tryz.prog 88 #[.agg #[.pointer (some ⟨N, 0, none⟩), va, vb, .bool sg], vx, vy] w (RetP W N M gv (partsF s x y) w)
theorem sizeF_wf {sg : Bool} {s : BSt} {a : List Nat} (h : BWf s) (ha : WsB a) : BWf (sizeF sg s a).1 ∧ WsB (sizeF sg s a).2 ∧ (sizeF sg s a).2.length = a.length := by
  cases sg
  · exact ⟨h, ha, rfl⟩
  · have n := negF_wf h ha
    have c := chooseF_wf n.1 (ha.getD (a.length - 1)) n.2.1 ha
    exact ⟨c.1, c.2.1, c.2.2.trans n.2.2⟩
theorem divS_wf {s : BSt} {x w : Nat} {rest wide : List Nat} (h : BWf s) (hx : WB x) (hr : WsB rest) (hw : WsB wide) : BWf (divS s x rest wide w).1 ∧ WB (divS s x rest wide w).2.1 ∧ WsB (divS s x rest wide w).2.2 ∧ (divS s x rest wide w).2.2.length = (rest.take w).length + 1 := by
  have hr2 : WsB (x :: rest.take w) := WsB.cons hx (hr.take w)
  have d := lessF_wf h hr2 hw
  have c := chooseF_wf d.1 d.2.2.1 d.2.1 hr2
  exact ⟨c.1, d.2.2.1, c.2.1, c.2.2.trans d.2.2.2⟩
theorem divG_wf : ∀ (n : Nat) {s : BSt} {a wide quot rest : List Nat}, BWf s → WsB a → WsB wide → WsB quot → WsB rest → rest.length = a.length + 1 → BWf (divG n s a wide quot rest).1 ∧ WsB (divG n s a wide quot rest).2.1 ∧ (divG n s a wide quot rest).2.1.length = quot.length ∧ WsB (divG n s a wide quot rest).2.2 ∧ (divG n s a wide quot rest).2.2.length = a.length + 1
  | 0, _, _, _, _, _, h, _, _, hq, hr, hl => ⟨h, hq, rfl, hr, hl⟩
  | n + 1, s, a, wide, quot, rest, h, ha, hw, hq, hr, hl => by
    have d := divS_wf (w := a.length) h (ha.getD n) hr hw
    have h1 := divG_wf n d.1 ha hw (hq.set d.2.1 n) d.2.2.1 (by rw [d.2.2.2, List.length_take]; omega)
    exact ⟨h1.1, h1.2.1, h1.2.2.1.trans (List.length_set ..), h1.2.2.2⟩
theorem partsF_wf {s : BSt} {a b : List Nat} (h : BWf s) (ha : WsB a) (hb : WsB b) : BWf (partsF s a b).1 ∧ WsB (partsF s a b).2.1 ∧ (partsF s a b).2.1.length = a.length ∧ WsB (partsF s a b).2.2 ∧ (partsF s a b).2.2.length = a.length := by
  have z := zeroF_wf h
  have y := zeroF_wf z.1
  have x := zeroF_wf y.1
  have d := divG_wf a.length x.1 ha ((hb.take a.length).append (WsB.one x.2)) (WsB.rep (n := a.length) z.2) (WsB.rep (n := a.length + 1) y.2) (by simp)
  refine ⟨d.1, d.2.1, d.2.2.1.trans (by simp), d.2.2.2.1.take _, ?_⟩
  show ((divG a.length _ a _ _ _).2.2.take a.length).length = a.length
  rw [List.length_take, d.2.2.2.2]; omega
set_option maxHeartbeats 8000000 in
theorem vdivU_any (W w : World) (N M : Nat) (gv va vb : Value) (s : BSt) (a b : List Nat) (h : GB W N M gv s w) (ha : WL (Bs N M gv) w va a) (hb : WL (Bs N M gv) w vb b) (hwa : WsB a) (hwb : WsB b) (hn : a.length ≤ 10000) (hl : b.length = a.length) (hP : PartsC W N M) (hna : a.length ≤ 64) (h0 : 0 < a.length) :
    Calls Tryz.prog 50 #[.agg #[.pointer (some ⟨N, 0, none⟩), va, vb, .bool false]] w (RetL W N M gv (divF false s a b) w) := by
  obtain ⟨R, hR⟩ : ∃ R, R = divF false s a b := ⟨_, rfl⟩
  rw [← hR]
  obtain ⟨Q, hQ⟩ : ∃ Q, Q = RetL W N M gv R w := ⟨_, rfl⟩
  rw [← hQ]
  have HQ := Lib.hid hQ
  have HV1 := Lib.hid (VB.start (sg := false) h ha hb)
  have hmf := mf_run
  obtain ⟨x, hx⟩ : ∃ x, x = sizeF false s a := ⟨_, rfl⟩
  obtain ⟨y, hy⟩ : ∃ y, y = sizeF false x.1 b := ⟨_, rfl⟩
  obtain ⟨p, hp⟩ : ∃ p, p = partsF y.1 x.2 y.2 := ⟨_, rfl⟩
  have wx : BWf x.1 ∧ WsB x.2 ∧ x.2.length = a.length := by rw [hx]; exact sizeF_wf h.wf hwa
  have wy : BWf y.1 ∧ WsB y.2 ∧ y.2.length = b.length := by rw [hy]; exact sizeF_wf wx.1 hwb
  have HR : Hid (R = maskF p.1 p.2.1 b) := Lib.hid (by rw [hR, hp, hy, hx]; rfl)
  have HS1 : Hid (∀ gv1 w1, GB W N M gv1 s w1 → WL (Bs N M gv1) w1 va a → WL (Bs N M gv1) w1 vb b → Calls Tryz.prog 89 #[.agg #[.pointer (some ⟨N, 0, none⟩), va, vb, .bool false], va] w1 (RetL W N M gv1 x w1)) := Lib.hid (fun gv1 w1 h1 h2 h3 => by rw [hx]; exact vsize_any W w1 N M gv1 va vb va false s a b a h1 h2 h3 hwa hwb hn h2 hwa hn h0)
  have HS2 : Hid (∀ gv1 w1, GB W N M gv1 x.1 w1 → WL (Bs N M gv1) w1 va a → WL (Bs N M gv1) w1 vb b → Calls Tryz.prog 89 #[.agg #[.pointer (some ⟨N, 0, none⟩), va, vb, .bool false], vb] w1 (RetL W N M gv1 y w1)) := Lib.hid (fun gv1 w1 h1 h2 h3 => by rw [hy]; exact vsize_any W w1 N M gv1 va vb vb false x.1 a b b h1 h2 h3 hwa hwb hn h3 hwb (by omega) (by omega))
  have HPP : Hid (∀ gv1 w1 v u, GB W N M gv1 y.1 w1 → WL (Bs N M gv1) w1 va a → WL (Bs N M gv1) w1 vb b → WL (Bs N M gv1) w1 v x.2 → WL (Bs N M gv1) w1 u y.2 → Calls Tryz.prog 88 #[.agg #[.pointer (some ⟨N, 0, none⟩), va, vb, .bool false], v, u] w1 (RetP W N M gv1 p w1)) := Lib.hid (fun gv1 w1 v u h1 h2 h3 h4 h5 => by rw [hp]; exact hP w1 gv1 va vb v u false y.1 a b x.2 y.2 h1 h2 h3 h4 wx.2.1 (by omega) (by omega) h5 wy.2.1 (by omega) (by omega))
  have wp : BWf p.1 ∧ WsB p.2.1 ∧ (p.2.1).length = a.length := by
    have h9 := partsF_wf wy.1 wx.2.1 wy.2.1
    rw [← hp, wx.2.2] at h9
    exact ⟨h9.1, h9.2.1, h9.2.2.1⟩
  have HMK : Hid (∀ gv1 w1 v, GB W N M gv1 p.1 w1 → WL (Bs N M gv1) w1 va a → WL (Bs N M gv1) w1 vb b → WL (Bs N M gv1) w1 v p.2.1 → Calls Tryz.prog 93 #[.agg #[.pointer (some ⟨N, 0, none⟩), va, vb, .bool false], v] w1 (RetL W N M gv1 R w1)) := Lib.hid (fun gv1 w1 v h1 h2 h3 h4 => by rw [HR.out]; exact vmask_any W w1 N M gv1 va vb false p.1 a b v p.2.1 h1 h2 h3 hwa hwb hn h4 wp.2.1 (by omega) (by omega))
  clear hx hy hp wx wy wp hP
  obtain ⟨X, hX⟩ : ∃ X, X = w.heap.size := ⟨_, rfl⟩
  rw [← hX] at HV1
  clear hQ h ha hb hwa hwb hR hl
  go_enter Tryz.func50, Tryz.ntmps50
  go_upto_region 1 with fail
  rw [← hX]
  clear hX
  generalize w.alloc (.cells #[.pointer (some ⟨N, 0, none⟩), va, vb, .bool false] 71) = w1 at HV1 ⊢
  obtain ⟨p0, p1, p2, p3⟩ := HV1.out.bx
  have hlX := HV1.out.xl
  go_region_held3 (fun w' => w'.cell? ⟨X, 0, none⟩ = some (.pointer (some ⟨N, 0, none⟩)) ∧ w'.cell? ⟨X, 1, none⟩ = some va ∧ w'.cell? ⟨X, 2, none⟩ = some vb ∧ w'.cell? ⟨X, 3, none⟩ = some (.bool false))
    (first | exact ⟨p0, p1, p2, p3⟩ | exact HV3.out.bx | exact HV4.out.bx | exact HV5.out.bx)
    (first | (go_at_call 89; first | (refine (HS2.out gv3 _ HV3.out.gb HV3.out.la HV3.out.lb).mono ?_; rintro e w4 ⟨q4, c4, gv4, rfl, H4⟩; have HV4 := Lib.hid (HV3.out.call H4.out.1 H4.out.2.1); have HA4 := Lib.hid (H3.out.2.2.step H4.out.2.1)) | (refine (HS1.out gv _ (HV1.out.next (Ext.refl w1).drew).gb (HV1.out.next (Ext.refl w1).drew).la (HV1.out.next (Ext.refl w1).drew).lb).mono ?_; rintro e w3 ⟨q3, c3, gv3, rfl, H3⟩; have HV3 := Lib.hid ((HV1.out.next (Ext.refl w1).drew).call H3.out.1 H3.out.2.1))) | (go_at_call 88; refine (HPP.out gv4 _ _ _ HV4.out.gb HV4.out.la HV4.out.lb HA4.out H4.out.2.2).mono ?_; rintro e w5 ⟨q5, c5, r5, d5, gv5, rfl, H5⟩; have HV5 := Lib.hid (HV4.out.call H5.out.1 H5.out.2.1)))
  clear p0 p1 p2 p3 hlX
  obtain ⟨p0, p1, p2, p3⟩ := HV5.out.bx
  have hlX := HV5.out.xl
  go_wp2_with (go_at_call 93; refine (HMK.out gv5 _ _ HV5.out.gb HV5.out.la HV5.out.lb H5.out.2.2.1).mono ?_; rintro e w6 ⟨q6, c6, gv6, rfl, H6⟩; have HV6 := Lib.hid (HV5.out.call H6.out.1 H6.out.2.1))
  rw [HQ.out]
  exact ⟨q6, c6, gv6, rfl, Lib.hid ⟨HV6.out.gb, HV6.out.st, H6.out.2.2⟩⟩
set_option maxHeartbeats 8000000 in
theorem vmodU_any (W w : World) (N M : Nat) (gv va vb : Value) (s : BSt) (a b : List Nat) (h : GB W N M gv s w) (ha : WL (Bs N M gv) w va a) (hb : WL (Bs N M gv) w vb b) (hwa : WsB a) (hwb : WsB b) (hn : a.length ≤ 10000) (hl : b.length = a.length) (hP : PartsC W N M) (hna : a.length ≤ 64) (h0 : 0 < a.length) :
    Calls Tryz.prog 51 #[.agg #[.pointer (some ⟨N, 0, none⟩), va, vb, .bool false]] w (RetL W N M gv (modF false s a b) w) := by
  obtain ⟨R, hR⟩ : ∃ R, R = modF false s a b := ⟨_, rfl⟩
  rw [← hR]
  obtain ⟨Q, hQ⟩ : ∃ Q, Q = RetL W N M gv R w := ⟨_, rfl⟩
  rw [← hQ]
  have HQ := Lib.hid hQ
  have HV1 := Lib.hid (VB.start (sg := false) h ha hb)
  have hmf := mf_run
  obtain ⟨x, hx⟩ : ∃ x, x = sizeF false s a := ⟨_, rfl⟩
  obtain ⟨y, hy⟩ : ∃ y, y = sizeF false x.1 b := ⟨_, rfl⟩
  obtain ⟨p, hp⟩ : ∃ p, p = partsF y.1 x.2 y.2 := ⟨_, rfl⟩
  have wx : BWf x.1 ∧ WsB x.2 ∧ x.2.length = a.length := by rw [hx]; exact sizeF_wf h.wf hwa
  have wy : BWf y.1 ∧ WsB y.2 ∧ y.2.length = b.length := by rw [hy]; exact sizeF_wf wx.1 hwb
  have HR : Hid (R = maskF p.1 p.2.2 b) := Lib.hid (by rw [hR, hp, hy, hx]; rfl)
  have HS1 : Hid (∀ gv1 w1, GB W N M gv1 s w1 → WL (Bs N M gv1) w1 va a → WL (Bs N M gv1) w1 vb b → Calls Tryz.prog 89 #[.agg #[.pointer (some ⟨N, 0, none⟩), va, vb, .bool false], va] w1 (RetL W N M gv1 x w1)) := Lib.hid (fun gv1 w1 h1 h2 h3 => by rw [hx]; exact vsize_any W w1 N M gv1 va vb va false s a b a h1 h2 h3 hwa hwb hn h2 hwa hn h0)
  have HS2 : Hid (∀ gv1 w1, GB W N M gv1 x.1 w1 → WL (Bs N M gv1) w1 va a → WL (Bs N M gv1) w1 vb b → Calls Tryz.prog 89 #[.agg #[.pointer (some ⟨N, 0, none⟩), va, vb, .bool false], vb] w1 (RetL W N M gv1 y w1)) := Lib.hid (fun gv1 w1 h1 h2 h3 => by rw [hy]; exact vsize_any W w1 N M gv1 va vb vb false x.1 a b b h1 h2 h3 hwa hwb hn h3 hwb (by omega) (by omega))
  have HPP : Hid (∀ gv1 w1 v u, GB W N M gv1 y.1 w1 → WL (Bs N M gv1) w1 va a → WL (Bs N M gv1) w1 vb b → WL (Bs N M gv1) w1 v x.2 → WL (Bs N M gv1) w1 u y.2 → Calls Tryz.prog 88 #[.agg #[.pointer (some ⟨N, 0, none⟩), va, vb, .bool false], v, u] w1 (RetP W N M gv1 p w1)) := Lib.hid (fun gv1 w1 v u h1 h2 h3 h4 h5 => by rw [hp]; exact hP w1 gv1 va vb v u false y.1 a b x.2 y.2 h1 h2 h3 h4 wx.2.1 (by omega) (by omega) h5 wy.2.1 (by omega) (by omega))
  have wp : BWf p.1 ∧ WsB p.2.2 ∧ (p.2.2).length = a.length := by
    have h9 := partsF_wf wy.1 wx.2.1 wy.2.1
    rw [← hp, wx.2.2] at h9
    exact ⟨h9.1, h9.2.2.2.1, h9.2.2.2.2⟩
  have HMK : Hid (∀ gv1 w1 v, GB W N M gv1 p.1 w1 → WL (Bs N M gv1) w1 va a → WL (Bs N M gv1) w1 vb b → WL (Bs N M gv1) w1 v p.2.2 → Calls Tryz.prog 93 #[.agg #[.pointer (some ⟨N, 0, none⟩), va, vb, .bool false], v] w1 (RetL W N M gv1 R w1)) := Lib.hid (fun gv1 w1 v h1 h2 h3 h4 => by rw [HR.out]; exact vmask_any W w1 N M gv1 va vb false p.1 a b v p.2.2 h1 h2 h3 hwa hwb hn h4 wp.2.1 (by omega) (by omega))
  clear hx hy hp wx wy wp hP
  obtain ⟨X, hX⟩ : ∃ X, X = w.heap.size := ⟨_, rfl⟩
  rw [← hX] at HV1
  clear hQ h ha hb hwa hwb hR hl
  go_enter Tryz.func51, Tryz.ntmps51
  go_upto_region 1 with fail
  rw [← hX]
  clear hX
  generalize w.alloc (.cells #[.pointer (some ⟨N, 0, none⟩), va, vb, .bool false] 71) = w1 at HV1 ⊢
  obtain ⟨p0, p1, p2, p3⟩ := HV1.out.bx
  have hlX := HV1.out.xl
  go_region_held3 (fun w' => w'.cell? ⟨X, 0, none⟩ = some (.pointer (some ⟨N, 0, none⟩)) ∧ w'.cell? ⟨X, 1, none⟩ = some va ∧ w'.cell? ⟨X, 2, none⟩ = some vb ∧ w'.cell? ⟨X, 3, none⟩ = some (.bool false))
    (first | exact ⟨p0, p1, p2, p3⟩ | exact HV3.out.bx | exact HV4.out.bx | exact HV5.out.bx)
    (first | (go_at_call 89; first | (refine (HS2.out gv3 _ HV3.out.gb HV3.out.la HV3.out.lb).mono ?_; rintro e w4 ⟨q4, c4, gv4, rfl, H4⟩; have HV4 := Lib.hid (HV3.out.call H4.out.1 H4.out.2.1); have HA4 := Lib.hid (H3.out.2.2.step H4.out.2.1)) | (refine (HS1.out gv _ (HV1.out.next (Ext.refl w1).drew).gb (HV1.out.next (Ext.refl w1).drew).la (HV1.out.next (Ext.refl w1).drew).lb).mono ?_; rintro e w3 ⟨q3, c3, gv3, rfl, H3⟩; have HV3 := Lib.hid ((HV1.out.next (Ext.refl w1).drew).call H3.out.1 H3.out.2.1))) | (go_at_call 88; refine (HPP.out gv4 _ _ _ HV4.out.gb HV4.out.la HV4.out.lb HA4.out H4.out.2.2).mono ?_; rintro e w5 ⟨q5, c5, r5, d5, gv5, rfl, H5⟩; have HV5 := Lib.hid (HV4.out.call H5.out.1 H5.out.2.1)))
  clear p0 p1 p2 p3 hlX
  obtain ⟨p0, p1, p2, p3⟩ := HV5.out.bx
  have hlX := HV5.out.xl
  go_wp2_with (go_at_call 93; refine (HMK.out gv5 _ _ HV5.out.gb HV5.out.la HV5.out.lb H5.out.2.2.2).mono ?_; rintro e w6 ⟨q6, c6, gv6, rfl, H6⟩; have HV6 := Lib.hid (HV5.out.call H6.out.1 H6.out.2.1))
  rw [HQ.out]
  exact ⟨q6, c6, gv6, rfl, Lib.hid ⟨HV6.out.gb, HV6.out.st, H6.out.2.2⟩⟩
end Go.Proofs.YtdjnekcpeaadhaaGreat
namespace Go.Proofs.YtdjnekcpeaadhaaGreat
open Go.RowKit Go.Maps
set_option linter.unusedSimpArgs false
set_option linter.unusedVariables false
set_option maxRecDepth 100000

set_option maxHeartbeats 8000000 in
theorem vdivS_any (W w : World) (N M : Nat) (gv va vb : Value) (s : BSt) (a b : List Nat) (h : GB W N M gv s w) (ha : WL (Bs N M gv) w va a) (hb : WL (Bs N M gv) w vb b) (hwa : WsB a) (hwb : WsB b) (hn : a.length ≤ 10000) (hl : b.length = a.length) (hP : PartsC W N M) (hna : a.length ≤ 64) (h0 : 0 < a.length) :
    Calls Tryz.prog 50 #[.agg #[.pointer (some ⟨N, 0, none⟩), va, vb, .bool true]] w (RetL W N M gv (divF true s a b) w) := by
  obtain ⟨R, hR⟩ : ∃ R, R = divF true s a b := ⟨_, rfl⟩
  rw [← hR]
  obtain ⟨Q, hQ⟩ : ∃ Q, Q = RetL W N M gv R w := ⟨_, rfl⟩
  rw [← hQ]
  have HQ := Lib.hid hQ
  have HV1 := Lib.hid (VB.start (sg := true) h ha hb)
  have hmf := mf_run
  obtain ⟨x, hx⟩ : ∃ x, x = sizeF true s a := ⟨_, rfl⟩
  obtain ⟨y, hy⟩ : ∃ y, y = sizeF true x.1 b := ⟨_, rfl⟩
  obtain ⟨p, hp⟩ : ∃ p, p = partsF y.1 x.2 y.2 := ⟨_, rfl⟩
  have wx : BWf x.1 ∧ WsB x.2 ∧ x.2.length = a.length := by rw [hx]; exact sizeF_wf h.wf hwa
  have wy : BWf y.1 ∧ WsB y.2 ∧ y.2.length = b.length := by rw [hy]; exact sizeF_wf wx.1 hwb
  have HS1 : Hid (∀ gv1 w1, GB W N M gv1 s w1 → WL (Bs N M gv1) w1 va a → WL (Bs N M gv1) w1 vb b → Calls Tryz.prog 89 #[.agg #[.pointer (some ⟨N, 0, none⟩), va, vb, .bool true], va] w1 (RetL W N M gv1 x w1)) := Lib.hid (fun gv1 w1 h1 h2 h3 => by rw [hx]; exact vsize_any W w1 N M gv1 va vb va true s a b a h1 h2 h3 hwa hwb hn h2 hwa hn h0)
  have HS2 : Hid (∀ gv1 w1, GB W N M gv1 x.1 w1 → WL (Bs N M gv1) w1 va a → WL (Bs N M gv1) w1 vb b → Calls Tryz.prog 89 #[.agg #[.pointer (some ⟨N, 0, none⟩), va, vb, .bool true], vb] w1 (RetL W N M gv1 y w1)) := Lib.hid (fun gv1 w1 h1 h2 h3 => by rw [hy]; exact vsize_any W w1 N M gv1 va vb vb true x.1 a b b h1 h2 h3 hwa hwb hn h3 hwb (by omega) (by omega))
  have HPP : Hid (∀ gv1 w1 v u, GB W N M gv1 y.1 w1 → WL (Bs N M gv1) w1 va a → WL (Bs N M gv1) w1 vb b → WL (Bs N M gv1) w1 v x.2 → WL (Bs N M gv1) w1 u y.2 → Calls Tryz.prog 88 #[.agg #[.pointer (some ⟨N, 0, none⟩), va, vb, .bool true], v, u] w1 (RetP W N M gv1 p w1)) := Lib.hid (fun gv1 w1 v u h1 h2 h3 h4 h5 => by rw [hp]; exact hP w1 gv1 va vb v u true y.1 a b x.2 y.2 h1 h2 h3 h4 wx.2.1 (by omega) (by omega) h5 wy.2.1 (by omega) (by omega))
  have wp : BWf p.1 ∧ WsB p.2.1 ∧ (p.2.1).length = a.length := by
    have h9 := partsF_wf wy.1 wx.2.1 wy.2.1
    rw [← hp, wx.2.2] at h9
    exact ⟨h9.1, h9.2.1, h9.2.2.1⟩
  obtain ⟨ta, hta⟩ : ∃ t, t = topF a := ⟨_, rfl⟩
  obtain ⟨tb, htb⟩ : ∃ t, t = topF b := ⟨_, rfl⟩
  have wta : WB ta := by rw [hta]; exact hwa.getD _
  have wtb : WB tb := by rw [htb]; exact hwb.getD _
  obtain ⟨e, he⟩ : ∃ e, e = xorF p.1 ta tb := ⟨_, rfl⟩
  have we : BWf e.1 ∧ WB e.2 := by rw [he]; exact xorF_wf wp.1 wta wtb
  obtain ⟨n, hn'⟩ : ∃ n, n = negF e.1 p.2.1 := ⟨_, rfl⟩
  have wn : BWf n.1 ∧ WsB n.2 ∧ n.2.length = (p.2.1).length := by rw [hn']; exact negF_wf we.1 wp.2.1
  obtain ⟨c, hc⟩ : ∃ c, c = chooseF n.1 e.2 n.2 p.2.1 := ⟨_, rfl⟩
  have wc : BWf c.1 ∧ WsB c.2 ∧ c.2.length = n.2.length := by rw [hc]; exact chooseF_wf wn.1 we.2 wn.2.1 wp.2.1
  have HR : Hid (R = maskF c.1 c.2 b) := Lib.hid (by rw [hR, hc, hn', he, hta, htb, hp, hy, hx]; rfl)
  have HTB : Hid (∀ w1, SlC w1 vb b.length (wvs b) → Calls Tryz.prog 92 #[vb] w1 fun e w' => e = .returned (.int .i64 (tb : Int)) ∧ w' = w1) := Lib.hid (fun w1 h1 => by rw [htb]; exact top_any b vb w1 h1 (by omega) (by omega))
  have HXO : Hid (∀ gv1 w1, GB W N M gv1 p.1 w1 → Calls Tryz.prog 91 #[.pointer (some ⟨N, 0, none⟩), .int .i64 (ta : Int), .int .i64 (tb : Int)] w1 (RetW W N M gv1 e w1)) := Lib.hid (fun gv1 w1 h1 => by rw [he]; exact xor_any W w1 N M gv1 p.1 ta tb h1 wta wtb)
  have HNE : Hid (∀ gv1 w1 v, GB W N M gv1 e.1 w1 → WL (Bs N M gv1) w1 v p.2.1 → Calls Tryz.prog 81 #[.pointer (some ⟨N, 0, none⟩), v] w1 (RetL W N M gv1 n w1)) := Lib.hid (fun gv1 w1 v h1 h2 => by rw [hn']; exact neg_any W w1 N M gv1 v e.1 p.2.1 h1 h2 wp.2.1 (by omega))
  have HCH : Hid (∀ gv1 w1 v u, GB W N M gv1 n.1 w1 → WL (Bs N M gv1) w1 v n.2 → WL (Bs N M gv1) w1 u p.2.1 → Calls Tryz.prog 90 #[.pointer (some ⟨N, 0, none⟩), .int .i64 (e.2 : Int), v, u] w1 (RetL W N M gv1 c w1)) := Lib.hid (fun gv1 w1 v u h1 h2 h3 => by rw [hc]; exact choose_any W w1 N M gv1 v u n.1 e.2 n.2 p.2.1 h1 we.2 h2 h3 wn.2.1 wp.2.1 (by omega) (by omega))
  have HTA : Hid (∀ w1, SlC w1 va a.length (wvs a) → Calls Tryz.prog 92 #[va] w1 fun e w' => e = .returned (.int .i64 (ta : Int)) ∧ w' = w1) := Lib.hid (fun w1 h1 => by rw [hta]; exact top_any a va w1 h1 h0 (by omega))
  have HMK : Hid (∀ gv1 w1 v, GB W N M gv1 c.1 w1 → WL (Bs N M gv1) w1 va a → WL (Bs N M gv1) w1 vb b → WL (Bs N M gv1) w1 v c.2 → Calls Tryz.prog 93 #[.agg #[.pointer (some ⟨N, 0, none⟩), va, vb, .bool true], v] w1 (RetL W N M gv1 R w1)) := Lib.hid (fun gv1 w1 v h1 h2 h3 h4 => by rw [HR.out]; exact vmask_any W w1 N M gv1 va vb true c.1 a b v c.2 h1 h2 h3 hwa hwb hn h4 wc.2.1 (by omega) (by omega))
  clear hx hy hp wx wy wp hP hta htb wta wtb hn' wn hc wc he we
  obtain ⟨X, hX⟩ : ∃ X, X = w.heap.size := ⟨_, rfl⟩
  rw [← hX] at HV1
  clear hQ h ha hb hwa hwb hR hl
  go_enter Tryz.func50, Tryz.ntmps50
  go_upto_region 1 with fail
  rw [← hX]
  clear hX
  generalize w.alloc (.cells #[.pointer (some ⟨N, 0, none⟩), va, vb, .bool true] 71) = w1 at HV1 ⊢
  obtain ⟨p0, p1, p2, p3⟩ := HV1.out.bx
  have hlX := HV1.out.xl
  go_region_held3 (fun w' => w'.cell? ⟨X, 0, none⟩ = some (.pointer (some ⟨N, 0, none⟩)) ∧ w'.cell? ⟨X, 1, none⟩ = some va ∧ w'.cell? ⟨X, 2, none⟩ = some vb ∧ w'.cell? ⟨X, 3, none⟩ = some (.bool true))
    (first | exact ⟨p0, p1, p2, p3⟩ | exact HV3.out.bx | exact HV4.out.bx | exact HV5.out.bx)
    (first | (go_at_call 89; first | (refine (HS2.out gv3 _ HV3.out.gb HV3.out.la HV3.out.lb).mono ?_; rintro e w4 ⟨q4, c4, gv4, rfl, H4⟩; have HV4 := Lib.hid (HV3.out.call H4.out.1 H4.out.2.1); have HA4 := Lib.hid (H3.out.2.2.step H4.out.2.1)) | (refine (HS1.out gv _ (HV1.out.next (Ext.refl w1).drew).gb (HV1.out.next (Ext.refl w1).drew).la (HV1.out.next (Ext.refl w1).drew).lb).mono ?_; rintro e w3 ⟨q3, c3, gv3, rfl, H3⟩; have HV3 := Lib.hid ((HV1.out.next (Ext.refl w1).drew).call H3.out.1 H3.out.2.1))) | (go_at_call 88; refine (HPP.out gv4 _ _ _ HV4.out.gb HV4.out.la HV4.out.lb HA4.out H4.out.2.2).mono ?_; rintro e w5 ⟨q5, c5, r5, d5, gv5, rfl, H5⟩; have HV5 := Lib.hid (HV4.out.call H5.out.1 H5.out.2.1)))
  clear p0 p1 p2 p3 hlX
  obtain ⟨p0, p1, p2, p3⟩ := HV5.out.bx
  have hlX := HV5.out.xl
  go_upto_region 3 with fail
  have HV6 := Lib.hid (HV5.out.next (Ext.refl w5).drew)
  have HQ6 := Lib.hid (H5.out.2.2.1.ext (Ext.refl w5).drew)
  go_region_held3 (fun w' => w'.cell? ⟨X, 0, none⟩ = some (.pointer (some ⟨N, 0, none⟩)) ∧ w'.cell? ⟨X, 1, none⟩ = some va ∧ w'.cell? ⟨X, 2, none⟩ = some vb ∧ w'.cell? ⟨X, 3, none⟩ = some (.bool true))
    (first | exact ⟨p0, p1, p2, p3⟩ | exact HV7.out.bx | exact HV8.out.bx | exact HV9.out.bx | exact HV10.out.bx | exact HV11.out.bx)
    (first | (go_at_call 92; first | (refine (HTB.out _ HV7.out.lb.1).mono ?_; rintro e8 w8 ⟨rfl, hw8⟩; have HV8 : Hid (VB W N M gv w X va vb true a b gv5 p.1 w8) := Lib.hid (hw8 ▸ HV7.out); have HQ8 := Lib.hid (show WL (Bs N M gv5) w8 _ p.2.1 from hw8 ▸ HQ7.out); clear hw8) | (refine (HTA.out _ HV6.out.la.1).mono ?_; rintro e7 w7 ⟨rfl, hw7⟩; have HV7 : Hid (VB W N M gv w X va vb true a b gv5 p.1 w7) := Lib.hid (hw7 ▸ HV6.out); have HQ7 := Lib.hid (show WL (Bs N M gv5) w7 _ p.2.1 from hw7 ▸ HQ6.out); clear hw7)) | (go_at_call 91; refine (HXO.out gv5 _ HV8.out.gb).mono ?_; rintro e9 w9 ⟨rfl, gv9, hB9, hS9⟩; have HV9 := Lib.hid (HV8.out.call hB9 hS9); have HQ9 := Lib.hid (HQ8.out.step hS9); clear hB9 hS9) | (go_at_call 81; refine (HNE.out gv9 _ _ HV9.out.gb HQ9.out).mono ?_; rintro e10 w10 ⟨q10, c10, gv10, rfl, H10⟩; have HV10 := Lib.hid (HV9.out.call H10.out.1 H10.out.2.1); have HQ10 := Lib.hid (HQ9.out.step H10.out.2.1)) | (go_at_call 90; refine (HCH.out gv10 _ _ _ HV10.out.gb H10.out.2.2 HQ10.out).mono ?_; rintro e11 w11 ⟨q11, c11, gv11, rfl, H11⟩; have HV11 := Lib.hid (HV10.out.call H11.out.1 H11.out.2.1)))
  clear p0 p1 p2 p3 hlX
  obtain ⟨p0, p1, p2, p3⟩ := HV11.out.bx
  have hlX := HV11.out.xl
  go_wp2_with (go_at_call 93; refine (HMK.out gv11 _ _ HV11.out.gb HV11.out.la HV11.out.lb H11.out.2.2).mono ?_; rintro e12 w12 ⟨q12, c12, gv12, rfl, H12⟩; have HV12 := Lib.hid (HV11.out.call H12.out.1 H12.out.2.1))
  rw [HQ.out]
  exact ⟨q12, c12, gv12, rfl, Lib.hid ⟨HV12.out.gb, HV12.out.st, H12.out.2.2⟩⟩
set_option maxHeartbeats 8000000 in
theorem vmodS_any (W w : World) (N M : Nat) (gv va vb : Value) (s : BSt) (a b : List Nat) (h : GB W N M gv s w) (ha : WL (Bs N M gv) w va a) (hb : WL (Bs N M gv) w vb b) (hwa : WsB a) (hwb : WsB b) (hn : a.length ≤ 10000) (hl : b.length = a.length) (hP : PartsC W N M) (hna : a.length ≤ 64) (h0 : 0 < a.length) :
    Calls Tryz.prog 51 #[.agg #[.pointer (some ⟨N, 0, none⟩), va, vb, .bool true]] w (RetL W N M gv (modF true s a b) w) := by
  obtain ⟨R, hR⟩ : ∃ R, R = modF true s a b := ⟨_, rfl⟩
  rw [← hR]
  obtain ⟨Q, hQ⟩ : ∃ Q, Q = RetL W N M gv R w := ⟨_, rfl⟩
  rw [← hQ]
  have HQ := Lib.hid hQ
  have HV1 := Lib.hid (VB.start (sg := true) h ha hb)
  have hmf := mf_run
  obtain ⟨x, hx⟩ : ∃ x, x = sizeF true s a := ⟨_, rfl⟩
  obtain ⟨y, hy⟩ : ∃ y, y = sizeF true x.1 b := ⟨_, rfl⟩
  obtain ⟨p, hp⟩ : ∃ p, p = partsF y.1 x.2 y.2 := ⟨_, rfl⟩
  have wx : BWf x.1 ∧ WsB x.2 ∧ x.2.length = a.length := by rw [hx]; exact sizeF_wf h.wf hwa
  have wy : BWf y.1 ∧ WsB y.2 ∧ y.2.length = b.length := by rw [hy]; exact sizeF_wf wx.1 hwb
  have HS1 : Hid (∀ gv1 w1, GB W N M gv1 s w1 → WL (Bs N M gv1) w1 va a → WL (Bs N M gv1) w1 vb b → Calls Tryz.prog 89 #[.agg #[.pointer (some ⟨N, 0, none⟩), va, vb, .bool true], va] w1 (RetL W N M gv1 x w1)) := Lib.hid (fun gv1 w1 h1 h2 h3 => by rw [hx]; exact vsize_any W w1 N M gv1 va vb va true s a b a h1 h2 h3 hwa hwb hn h2 hwa hn h0)
  have HS2 : Hid (∀ gv1 w1, GB W N M gv1 x.1 w1 → WL (Bs N M gv1) w1 va a → WL (Bs N M gv1) w1 vb b → Calls Tryz.prog 89 #[.agg #[.pointer (some ⟨N, 0, none⟩), va, vb, .bool true], vb] w1 (RetL W N M gv1 y w1)) := Lib.hid (fun gv1 w1 h1 h2 h3 => by rw [hy]; exact vsize_any W w1 N M gv1 va vb vb true x.1 a b b h1 h2 h3 hwa hwb hn h3 hwb (by omega) (by omega))
  have HPP : Hid (∀ gv1 w1 v u, GB W N M gv1 y.1 w1 → WL (Bs N M gv1) w1 va a → WL (Bs N M gv1) w1 vb b → WL (Bs N M gv1) w1 v x.2 → WL (Bs N M gv1) w1 u y.2 → Calls Tryz.prog 88 #[.agg #[.pointer (some ⟨N, 0, none⟩), va, vb, .bool true], v, u] w1 (RetP W N M gv1 p w1)) := Lib.hid (fun gv1 w1 v u h1 h2 h3 h4 h5 => by rw [hp]; exact hP w1 gv1 va vb v u true y.1 a b x.2 y.2 h1 h2 h3 h4 wx.2.1 (by omega) (by omega) h5 wy.2.1 (by omega) (by omega))
  have wp : BWf p.1 ∧ WsB p.2.2 ∧ (p.2.2).length = a.length := by
    have h9 := partsF_wf wy.1 wx.2.1 wy.2.1
    rw [← hp, wx.2.2] at h9
    exact ⟨h9.1, h9.2.2.2.1, h9.2.2.2.2⟩
  obtain ⟨ta, hta⟩ : ∃ t, t = topF a := ⟨_, rfl⟩
  obtain ⟨tb, htb⟩ : ∃ t, t = topF b := ⟨_, rfl⟩
  have wta : WB ta := by rw [hta]; exact hwa.getD _
  have wtb : WB tb := by rw [htb]; exact hwb.getD _
  obtain ⟨n, hn'⟩ : ∃ n, n = negF p.1 p.2.2 := ⟨_, rfl⟩
  have wn : BWf n.1 ∧ WsB n.2 ∧ n.2.length = (p.2.2).length := by rw [hn']; exact negF_wf wp.1 wp.2.1
  obtain ⟨c, hc⟩ : ∃ c, c = chooseF n.1 ta n.2 p.2.2 := ⟨_, rfl⟩
  have wc : BWf c.1 ∧ WsB c.2 ∧ c.2.length = n.2.length := by rw [hc]; exact chooseF_wf wn.1 wta wn.2.1 wp.2.1
  have HR : Hid (R = maskF c.1 c.2 b) := Lib.hid (by rw [hR, hc, hn', hta, hp, hy, hx]; rfl)
  have HNE : Hid (∀ gv1 w1 v, GB W N M gv1 p.1 w1 → WL (Bs N M gv1) w1 v p.2.2 → Calls Tryz.prog 81 #[.pointer (some ⟨N, 0, none⟩), v] w1 (RetL W N M gv1 n w1)) := Lib.hid (fun gv1 w1 v h1 h2 => by rw [hn']; exact neg_any W w1 N M gv1 v p.1 p.2.2 h1 h2 wp.2.1 (by omega))
  have HCH : Hid (∀ gv1 w1 v u, GB W N M gv1 n.1 w1 → WL (Bs N M gv1) w1 v n.2 → WL (Bs N M gv1) w1 u p.2.2 → Calls Tryz.prog 90 #[.pointer (some ⟨N, 0, none⟩), .int .i64 (ta : Int), v, u] w1 (RetL W N M gv1 c w1)) := Lib.hid (fun gv1 w1 v u h1 h2 h3 => by rw [hc]; exact choose_any W w1 N M gv1 v u n.1 ta n.2 p.2.2 h1 wta h2 h3 wn.2.1 wp.2.1 (by omega) (by omega))
  have HTA : Hid (∀ w1, SlC w1 va a.length (wvs a) → Calls Tryz.prog 92 #[va] w1 fun e w' => e = .returned (.int .i64 (ta : Int)) ∧ w' = w1) := Lib.hid (fun w1 h1 => by rw [hta]; exact top_any a va w1 h1 h0 (by omega))
  have HMK : Hid (∀ gv1 w1 v, GB W N M gv1 c.1 w1 → WL (Bs N M gv1) w1 va a → WL (Bs N M gv1) w1 vb b → WL (Bs N M gv1) w1 v c.2 → Calls Tryz.prog 93 #[.agg #[.pointer (some ⟨N, 0, none⟩), va, vb, .bool true], v] w1 (RetL W N M gv1 R w1)) := Lib.hid (fun gv1 w1 v h1 h2 h3 h4 => by rw [HR.out]; exact vmask_any W w1 N M gv1 va vb true c.1 a b v c.2 h1 h2 h3 hwa hwb hn h4 wc.2.1 (by omega) (by omega))
  clear hx hy hp wx wy wp hP hta htb wta wtb hn' wn hc wc 
  obtain ⟨X, hX⟩ : ∃ X, X = w.heap.size := ⟨_, rfl⟩
  rw [← hX] at HV1
  clear hQ h ha hb hwa hwb hR hl
  go_enter Tryz.func51, Tryz.ntmps51
  go_upto_region 1 with fail
  rw [← hX]
  clear hX
  generalize w.alloc (.cells #[.pointer (some ⟨N, 0, none⟩), va, vb, .bool true] 71) = w1 at HV1 ⊢
  obtain ⟨p0, p1, p2, p3⟩ := HV1.out.bx
  have hlX := HV1.out.xl
  go_region_held3 (fun w' => w'.cell? ⟨X, 0, none⟩ = some (.pointer (some ⟨N, 0, none⟩)) ∧ w'.cell? ⟨X, 1, none⟩ = some va ∧ w'.cell? ⟨X, 2, none⟩ = some vb ∧ w'.cell? ⟨X, 3, none⟩ = some (.bool true))
    (first | exact ⟨p0, p1, p2, p3⟩ | exact HV3.out.bx | exact HV4.out.bx | exact HV5.out.bx)
    (first | (go_at_call 89; first | (refine (HS2.out gv3 _ HV3.out.gb HV3.out.la HV3.out.lb).mono ?_; rintro e w4 ⟨q4, c4, gv4, rfl, H4⟩; have HV4 := Lib.hid (HV3.out.call H4.out.1 H4.out.2.1); have HA4 := Lib.hid (H3.out.2.2.step H4.out.2.1)) | (refine (HS1.out gv _ (HV1.out.next (Ext.refl w1).drew).gb (HV1.out.next (Ext.refl w1).drew).la (HV1.out.next (Ext.refl w1).drew).lb).mono ?_; rintro e w3 ⟨q3, c3, gv3, rfl, H3⟩; have HV3 := Lib.hid ((HV1.out.next (Ext.refl w1).drew).call H3.out.1 H3.out.2.1))) | (go_at_call 88; refine (HPP.out gv4 _ _ _ HV4.out.gb HV4.out.la HV4.out.lb HA4.out H4.out.2.2).mono ?_; rintro e w5 ⟨q5, c5, r5, d5, gv5, rfl, H5⟩; have HV5 := Lib.hid (HV4.out.call H5.out.1 H5.out.2.1)))
  clear p0 p1 p2 p3 hlX
  obtain ⟨p0, p1, p2, p3⟩ := HV5.out.bx
  have hlX := HV5.out.xl
  go_upto_region 3 with fail
  have HV6 := Lib.hid (HV5.out.next (Ext.refl w5).drew)
  have HQ6 := Lib.hid (H5.out.2.2.2.ext (Ext.refl w5).drew)
  go_region_held3 (fun w' => w'.cell? ⟨X, 0, none⟩ = some (.pointer (some ⟨N, 0, none⟩)) ∧ w'.cell? ⟨X, 1, none⟩ = some va ∧ w'.cell? ⟨X, 2, none⟩ = some vb ∧ w'.cell? ⟨X, 3, none⟩ = some (.bool true))
    (first | exact ⟨p0, p1, p2, p3⟩ | exact HV7.out.bx | exact HV8.out.bx | exact HV9.out.bx | exact HV10.out.bx | exact HV11.out.bx)
    (first | (go_at_call 92; refine (HTA.out _ HV6.out.la.1).mono ?_; rintro e7 w9 ⟨rfl, hw7⟩; have HV9 : Hid (VB W N M gv w X va vb true a b gv5 p.1 w9) := Lib.hid (hw7 ▸ HV6.out); have HQ9 := Lib.hid (show WL (Bs N M gv5) w9 _ p.2.2 from hw7 ▸ HQ6.out); clear hw7) | (go_at_call 81; refine (HNE.out gv5 _ _ HV9.out.gb HQ9.out).mono ?_; rintro e10 w10 ⟨q10, c10, gv10, rfl, H10⟩; have HV10 := Lib.hid (HV9.out.call H10.out.1 H10.out.2.1); have HQ10 := Lib.hid (HQ9.out.step H10.out.2.1)) | (go_at_call 90; refine (HCH.out gv10 _ _ _ HV10.out.gb H10.out.2.2 HQ10.out).mono ?_; rintro e11 w11 ⟨q11, c11, gv11, rfl, H11⟩; have HV11 := Lib.hid (HV10.out.call H11.out.1 H11.out.2.1)))
  clear p0 p1 p2 p3 hlX
  obtain ⟨p0, p1, p2, p3⟩ := HV11.out.bx
  have hlX := HV11.out.xl
  go_wp2_with (go_at_call 93; refine (HMK.out gv11 _ _ HV11.out.gb HV11.out.la HV11.out.lb H11.out.2.2).mono ?_; rintro e12 w12 ⟨q12, c12, gv12, rfl, H12⟩; have HV12 := Lib.hid (HV11.out.call H12.out.1 H12.out.2.1))
  rw [HQ.out]
  exact ⟨q12, c12, gv12, rfl, Lib.hid ⟨HV12.out.gb, HV12.out.st, H12.out.2.2⟩⟩
end Go.Proofs.YtdjnekcpeaadhaaGreat
namespace Go.Proofs.YtdjnekcpeaadhaaGreat
open Go.RowKit Go.Maps
set_option linter.unusedSimpArgs false
set_option linter.unusedVariables false
set_option maxRecDepth 100000

theorem parts_any (W : World) (N M : Nat) : PartsC W N M := fun w gv va vb vx vy sg s a b x y h ha hb hx hwx hnx h0 hy hwy hny hxy => vparts_any W w N M gv va vb sg s a b vx x vy y h ha hb hx hwx hnx h0 hy hwy hny hxy
theorem vdiv_any (W w : World) (N M : Nat) (gv va vb : Value) (sg : Bool) (s : BSt) (a b : List Nat) (h : GB W N M gv s w) (ha : WL (Bs N M gv) w va a) (hb : WL (Bs N M gv) w vb b) (hwa : WsB a) (hwb : WsB b) (hl : b.length = a.length) (hna : a.length ≤ 64) (h0 : 0 < a.length) :
    Calls Tryz.prog 50 #[.agg #[.pointer (some ⟨N, 0, none⟩), va, vb, .bool sg]] w (RetL W N M gv (divF sg s a b) w) := by
  cases sg
  · exact vdivU_any W w N M gv va vb s a b h ha hb hwa hwb (by omega) hl (parts_any W N M) hna h0
  · exact vdivS_any W w N M gv va vb s a b h ha hb hwa hwb (by omega) hl (parts_any W N M) hna h0
theorem vmod_any (W w : World) (N M : Nat) (gv va vb : Value) (sg : Bool) (s : BSt) (a b : List Nat) (h : GB W N M gv s w) (ha : WL (Bs N M gv) w va a) (hb : WL (Bs N M gv) w vb b) (hwa : WsB a) (hwb : WsB b) (hl : b.length = a.length) (hna : a.length ≤ 64) (h0 : 0 < a.length) :
    Calls Tryz.prog 51 #[.agg #[.pointer (some ⟨N, 0, none⟩), va, vb, .bool sg]] w (RetL W N M gv (modF sg s a b) w) := by
  cases sg
  · exact vmodU_any W w N M gv va vb s a b h ha hb hwa hwb (by omega) hl (parts_any W N M) hna h0
  · exact vmodS_any W w N M gv va vb s a b h ha hb hwa hwb (by omega) hl (parts_any W N M) hna h0
end Go.Proofs.YtdjnekcpeaadhaaGreat

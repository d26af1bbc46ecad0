/-
  The walk of the law CnfOf.
  Conditions: the net and the wires lie in memory, the library's table of powers is laid.
-/
import Derived.Test.YtlikmdeplpldlaaDoorCnfV
import Derived.Test.YtlikmdeplpldlaaDoorCnfS
namespace Go.Proofs.YtlikmdeplpldlaaDoor
open Go.RowKit
set_option linter.unusedSimpArgs false
set_option linter.unusedVariables false
set_option maxRecDepth 100000

/-- A cell that is there, and may be stored to. -/
def Rm (w : World) (b k : Nat) : Prop := (∃ u, w.cell? ⟨b, k, none⟩ = some u) ∧ w.frozen? ⟨b, k, none⟩ = false
theorem Rm.ext {w w' : World} {b k : Nat} (h : Rm w b k) (hx : Ext w w') : Rm w' b k := by
  obtain ⟨⟨u, h1⟩, h2⟩ := h
  have := World.block_lt_of_cell? w _ h1
  exact ⟨⟨u, hx.cell h1⟩, by rw [hx.frozens _ _ this]; exact h2⟩
theorem Rm.set {w : World} {b k : Nat} (h : Rm w b k) (p : Addr) (v : Value) : Rm (w.setCell p v) b k := by
  obtain ⟨⟨u, h1⟩, h2⟩ := h
  refine ⟨?_, by rw [World.frozen?_setCell]; exact h2⟩
  by_cases e : (⟨b, k, none⟩ : Addr) = p
  · subst e; exact ⟨v, World.cell?_setCell_same' _ _ _ (by rw [h1]; rfl)⟩
  · exact ⟨u, by rw [World.cell?_setCell_other _ _ _ _ (fun h => e h.symm)]; exact h1⟩
/-- A formula whose rows are taken away, one by one. -/
structure ZI (W : World) (X : Nat) (x : Int) (a : Option Addr) (n c : Nat) (gs : List Value) (rs : List (List Int)) (i : Nat) (w : World) : Prop where
  ext : Ext W w
  box : BoxV X [.int .i64 x, .slice a n c] w
  top : ∀ (j : Nat) (y : Value), i ≤ j → gs[j]? = some y → ∃ g, a = some ⟨g, 0, none⟩ ∧ w.cell? ⟨g, j, none⟩ = some y
  tops : ∀ g, a = some ⟨g, 0, none⟩ → W.heap.size ≤ g ∧ g ≠ X ∧ ∀ j < n, Rm w g j
  row : ∀ (j : Nat) (y : Value) (r : List Int), gs[j]? = some y → rs[j]? = some r → ∃ b m, y = .slice b r.length m ∧ ∀ k < r.length, ∃ g, b = some ⟨g, 0, none⟩ ∧ W.heap.size ≤ g ∧ g ≠ X ∧ a ≠ some ⟨g, 0, none⟩ ∧ Rm w g k
section
variable {W w w' : World} {X : Nat} {x : Int} {a : Option Addr} {n c i : Nat} {gs : List Value} {rs : List (List Int)}
theorem ZI.mk' (h : FR W [] (.slice a n c) gs rs w) (hn : n = rs.length) (hb : BoxV X [.int .i64 x, .slice a n c] w') (hx : Ext w w') (hX : w.heap.size ≤ X) : ZI W X x a n c gs rs 0 w' := by
  have hl := h.len
  have hgn : gs.length = n := by omega
  have ht := h.top
  rw [hgn] at ht
  refine ⟨h.ext.trans hx, hb, fun j y _ hy => ?_, fun g hg => ?_, fun j y r h1 h2 => ?_⟩
  · have hj := (List.getElem?_eq_some_iff.1 hy).1
    obtain ⟨g, cap, e, h1, h2, h3⟩ := ownsRow_some ht (by omega)
    simp only [Value.slice.injEq] at e
    obtain ⟨rfl, -, rfl⟩ := e
    have := ht.cells (g := g) rfl j y hy
    rw [show (⟨g, 0, none⟩ : Addr).add j = ⟨g, j, none⟩ by unfold Addr.add; split <;> simp_all] at this
    exact ⟨g, rfl, hx.cell this⟩
  · subst hg
    obtain ⟨h1, h2⟩ := ht.lt g rfl
    exact ⟨h1, by omega, fun j hj => by obtain ⟨y, e1, e2⟩ := own_room1 ht j hj; exact Rm.ext ⟨⟨y, e1⟩, e2⟩ hx⟩
  · obtain ⟨o1, o2⟩ := h.row j y r h1 h2
    obtain ⟨b, m, rfl⟩ := own_n o1
    refine ⟨b, m, rfl, fun k hk => ?_⟩
    obtain ⟨g, cap, e, _⟩ := ownsRow_some o1 (by omega)
    simp only [Value.slice.injEq] at e
    obtain ⟨rfl, -, rfl⟩ := e
    obtain ⟨l1, l2⟩ := o1.lt g rfl
    obtain ⟨u, e1, e2⟩ := own_room1 o1 k hk
    exact ⟨g, rfl, l1, by omega, fun e => (o2 g rfl).2 (by rw [e]; rfl), Rm.ext ⟨⟨u, e1⟩, e2⟩ hx⟩
theorem ZI.next (h : ZI W X x a n c gs rs i w) (hx : Ext w w') : ZI W X x a n c gs rs i w' :=
  ⟨h.ext.trans hx, h.box.ext hx, fun j y hj hy => by obtain ⟨g, e1, e2⟩ := h.top j y hj hy; exact ⟨g, e1, hx.cell e2⟩, fun g hg => ⟨(h.tops g hg).1, (h.tops g hg).2.1, fun j hj => ((h.tops g hg).2.2 j hj).ext hx⟩, fun j y r h1 h2 => by
    obtain ⟨b, m, e, hk⟩ := h.row j y r h1 h2
    exact ⟨b, m, e, fun k hk1 => by obtain ⟨g, e1, e2, e3, e4, e5⟩ := hk k hk1; exact ⟨g, e1, e2, e3, e4, e5.ext hx⟩⟩⟩
theorem ZI.zero (h : ZI W X x a n c gs rs i w) {g k : Nat} (hg : W.heap.size ≤ g) (hX : g ≠ X) (ha : a ≠ some ⟨g, 0, none⟩) (u : Value) : ZI W X x a n c gs rs i (w.setCell ⟨g, k, none⟩ u) :=
  ⟨h.ext.setCell (p := ⟨g, k, none⟩) hg _, h.box.other hX _ _, fun j y hj hy => by
    obtain ⟨g', e1, e2⟩ := h.top j y hj hy
    refine ⟨g', e1, ?_⟩
    rw [World.cell?_setCell_other _ _ _ _ (by intro e; simp only [Addr.mk.injEq] at e; exact ha (by rw [e1, e.1]))]
    exact e2, fun g' hg' => ⟨(h.tops g' hg').1, (h.tops g' hg').2.1, fun j hj => ((h.tops g' hg').2.2 j hj).set _ _⟩, fun j y r h1 h2 => by
    obtain ⟨b, m, e, hk⟩ := h.row j y r h1 h2
    exact ⟨b, m, e, fun k hk1 => by obtain ⟨g', e1, e2, e3, e4, e5⟩ := hk k hk1; exact ⟨g', e1, e2, e3, e4, e5.set _ _⟩⟩⟩
theorem ZI.drop (h : ZI W X x a n c gs rs i w) {g : Nat} (ha : a = some ⟨g, 0, none⟩) (u : Value) : ZI W X x a n c gs rs (i + 1) (w.setCell ⟨g, i, none⟩ u) := by
  obtain ⟨hg, hX, -⟩ := h.tops g ha
  refine ⟨h.ext.setCell (p := ⟨g, i, none⟩) hg _, h.box.other hX _ _, fun j y hj hy => ?_, fun g' hg' => ⟨(h.tops g' hg').1, (h.tops g' hg').2.1, fun j hj => ((h.tops g' hg').2.2 j hj).set _ _⟩, fun j y r h1 h2 => ?_⟩
  · obtain ⟨g', e1, e2⟩ := h.top j y (by omega) hy
    refine ⟨g', e1, ?_⟩
    rw [World.cell?_setCell_other _ _ _ _ (by intro e; simp only [Addr.mk.injEq] at e; omega)]
    exact e2
  · obtain ⟨b, m, e, hk⟩ := h.row j y r h1 h2
    exact ⟨b, m, e, fun k hk1 => by obtain ⟨g', e1, e2, e3, e4, e5⟩ := hk k hk1; exact ⟨g', e1, e2, e3, e4, e5.set _ _⟩⟩
end
theorem OfP.open {W w : World} {l : List GateV} {ws : List Int} {e : Ending} {x er : Int} {rs : List (List Int)} {n : Nat} (h : OfP W l ws e w) (ho : ofV l ws = (x, rs, er)) (hn : n = rs.length) : ∃ a c vs, e = .returned (.tuple #[.agg #[.int .i64 x, .slice a n c], .int .i64 er]) ∧ Hid (FR W [] (.slice a n c) vs rs w) := by
  obtain ⟨v, vs, rfl, hf⟩ := h
  rw [ho] at hf ⊢
  obtain ⟨a, c, rfl⟩ := own_n hf.top
  have hl := hf.len
  rw [hl, ← hn] at hf ⊢
  exact ⟨a, c, vs, rfl, Lib.hid hf⟩
theorem ofV_sz (l : List GateV) (ws : List Int) : szF (ofV l ws).2.1 ≤ 10 * l.length + 2 * ws.length := by
  have := ofN_sz l ws
  unfold ofV
  split
  · split
    · exact this
    · simp [szF]
  · simp [szF]

set_option maxHeartbeats 8000000 in
theorem cnfOf_any (l : List GateV) (gv : Value) (ws : List Int) (wv : Value) (w : World) (h : GatesIn w gv l) (hwf : GatesWf l) (hw : SlC w wv ws.length (i64s ws)) (hwI : ∀ x ∈ ws, I64 x) (htab : Lib.TabIs Tryd.prog w "internal/strconv.uint64pow10" .u64 Lib.pow10Tab) :
    Calls Tryd.prog 4 #[.agg #[gv], wv] w fun e w' => e = .returned (.bool true) ∧ Ext w w' := by
  have HH := Lib.hid (And.intro h (And.intro hwf (And.intro hw (And.intro hwI htab))))
  obtain ⟨a, cap, rfl, hn1, hn2, -⟩ := id h
  obtain ⟨aw, capw, rfl, hm1, hm2, -⟩ := id hw
  obtain ⟨n, hn⟩ : ∃ n, n = l.length := ⟨_, rfl⟩
  obtain ⟨M, hM⟩ : ∃ n, n = ws.length := ⟨_, rfl⟩
  have HN := Lib.hid (And.intro hn hM)
  have hMb : M ≤ 9223372036854775807 := by have := hm2; unfold maxLen at this; omega
  have HG : Hid (GatesIn w (.slice a n cap) l) := Lib.hid (by rw [hn]; exact h)
  have HW : Hid (SlC w (.slice aw M capw) ws.length (i64s ws)) := Lib.hid (by rw [hM]; exact hw)
  rw [← hn, ← hM]
  clear h hwf hw hwI htab hn hM hn1 hn2 hm1 hm2
  go_enter Tryd.func4, Tryd.ntmps4
  go_upto_region 1 with fail
  have hbX := BoxV.of_row (heap_alloc_last w (.cells #[.slice a n cap] 35))
  have hE : Ext w (w.alloc (.cells #[.slice a n cap] 35)) := (Ext.refl w).alloc _
  generalize w.alloc (.cells #[.slice a n cap] 35) = w1 at hbX hE ⊢
  generalize w.heap.size = X at hbX ⊢
  have p0 := hbX.cells 0 _ rfl
  have hl := hbX.lt
  have HE := Lib.hid hE
  have HT1 := Lib.hid (tab_ext HH.out.2.2.2.2 hE)
  have HG1 : Hid (GatesIn w1 (.slice a n cap) l) := Lib.hid (HG.out.ext hE)
  have HW1 := Lib.hid (HW.out.ext hE)
  clear hbX hE
  by_cases hbig : (5000 : Int) < (n : Int)
  · have hbg : decide (5000 < l.length) = true := decide_eq_true (by have := HN.out.1; omega)
    have HBG := Lib.hid hbg
    clear hbg
    go_wp2_with (first | (go_at_call 8; refine (alive_any _ (tab_ext HT1.out (by repeat first | exact Ext.refl _ | assumption | refine Ext.drew ?_ | refine Ext.drewN ?_ _ | refine Ext.extBy ?_ _ | refine Ext.alloc ?_ _ | refine Ext.setCell ?_ (by simp; try omega) _ | (refine Ext.trans ?_ (by assumption))))).mono ?_; rintro e w' ⟨rfl, hE'⟩; (first | (with_reducible obtain ⟨t2, rfl⟩ := Ext.tok2 hE') | (obtain ⟨t2, rfl⟩ := Ext.tok hE'))) | (go_at_call 15; refine (big22_any l _ _ (SlC.ext HG1.out (by repeat first | exact Ext.refl _ | assumption | refine Ext.drew ?_ | refine Ext.drewN ?_ _ | refine Ext.extBy ?_ _ | refine Ext.alloc ?_ _ | refine Ext.setCell ?_ (by simp; try omega) _ | (refine Ext.trans ?_ (by assumption))))).mono ?_; rintro e w' ⟨rfl, hE'⟩; rw [HBG.out]; (first | (with_reducible obtain ⟨t2, rfl⟩ := Ext.tok2 hE') | (obtain ⟨t2, rfl⟩ := Ext.tok hE'))))
    go_ret
    exact ⟨rfl, HE.out.trans (Ext.by w1 _)⟩
  · have hbg : decide (5000 < l.length) = false := decide_eq_false (by have := HN.out.1; omega)
    have HBG := Lib.hid hbg
    clear hbg
    by_cases hMM : (1000 : Int) < (M : Int)
    · go_wp2_with (first | (go_at_call 8; refine (alive_any _ (tab_ext HT1.out (by repeat first | exact Ext.refl _ | assumption | refine Ext.drew ?_ | refine Ext.drewN ?_ _ | refine Ext.extBy ?_ _ | refine Ext.alloc ?_ _ | refine Ext.setCell ?_ (by simp; try omega) _ | (refine Ext.trans ?_ (by assumption))))).mono ?_; rintro e w' ⟨rfl, hE'⟩; (first | (with_reducible obtain ⟨t2, rfl⟩ := Ext.tok2 hE') | (obtain ⟨t2, rfl⟩ := Ext.tok hE'))) | (go_at_call 15; refine (big22_any l _ _ (SlC.ext HG1.out (by repeat first | exact Ext.refl _ | assumption | refine Ext.drew ?_ | refine Ext.drewN ?_ _ | refine Ext.extBy ?_ _ | refine Ext.alloc ?_ _ | refine Ext.setCell ?_ (by simp; try omega) _ | (refine Ext.trans ?_ (by assumption))))).mono ?_; rintro e w' ⟨rfl, hE'⟩; rw [HBG.out]; (first | (with_reducible obtain ⟨t2, rfl⟩ := Ext.tok2 hE') | (obtain ⟨t2, rfl⟩ := Ext.tok hE'))))
      go_ret
      exact ⟨rfl, HE.out.trans (Ext.by w1 _)⟩
    · have HSZ : Hid (10 * l.length + 2 * ws.length ≤ 200000) := Lib.hid (by have := HN.out; omega)
      obtain ⟨ox, rs, er, ho⟩ : ∃ x rs er, ofV l ws = (x, rs, er) := ⟨_, _, _, rfl⟩
      obtain ⟨N, hN⟩ : ∃ n, n = rs.length := ⟨_, rfl⟩
      have hsz : szF rs ≤ 200000 := by have := ofV_sz l ws; rw [ho] at this; have := HSZ.out; simp only at *; omega
      have hNb : N ≤ 200000 := by have := szF_len rs; omega
      have HO := Lib.hid (And.intro ho (And.intro hN hsz))
      clear ho hN hsz
      go_upto_region 6 with (first | (go_at_call 8; refine (alive_any _ (tab_ext HT1.out (by repeat first | exact Ext.refl _ | assumption | refine Ext.drew ?_ | refine Ext.drewN ?_ _ | refine Ext.extBy ?_ _ | refine Ext.alloc ?_ _ | refine Ext.setCell ?_ (by simp; try omega) _ | (refine Ext.trans ?_ (by assumption))))).mono ?_; rintro e w' ⟨rfl, hE'⟩; (first | (with_reducible obtain ⟨t2, rfl⟩ := Ext.tok2 hE') | (obtain ⟨t2, rfl⟩ := Ext.tok hE'))) | (go_at_call 15; refine (big22_any l _ _ (SlC.ext HG1.out (by repeat first | exact Ext.refl _ | assumption | refine Ext.drew ?_ | refine Ext.drewN ?_ _ | refine Ext.extBy ?_ _ | refine Ext.alloc ?_ _ | refine Ext.setCell ?_ (by simp; try omega) _ | (refine Ext.trans ?_ (by assumption))))).mono ?_; rintro e w' ⟨rfl, hE'⟩; rw [HBG.out]; (first | (with_reducible obtain ⟨t3, rfl⟩ := Ext.tok2 hE') | (obtain ⟨t3, rfl⟩ := Ext.tok hE'))) | (go_at_call 16; refine (ofC_any l _ ws _ _ (SlC.ext HG1.out (by repeat first | exact Ext.refl _ | assumption | refine Ext.drew ?_ | refine Ext.drewN ?_ _ | refine Ext.extBy ?_ _ | refine Ext.alloc ?_ _ | refine Ext.setCell ?_ (by simp; try omega) _ | (refine Ext.trans ?_ (by assumption)))) HH.out.2.1 (SlC.ext HW1.out (by repeat first | exact Ext.refl _ | assumption | refine Ext.drew ?_ | refine Ext.drewN ?_ _ | refine Ext.extBy ?_ _ | refine Ext.alloc ?_ _ | refine Ext.setCell ?_ (by simp; try omega) _ | (refine Ext.trans ?_ (by assumption)))) HH.out.2.2.2.1 HSZ.out).mono ?_; rintro e w4 hP; obtain ⟨fa, fc, fs, rfl, HF⟩ := hP.open HO.out.1 HO.out.2.1; clear hP) | (refine wpList_store_last rfl 24 (.tmp 7) (.tmp 33) rfl _ _ _ _ rfl rfl (by simp) (by kernel_rfl) (by kernel_rfl) (by kernel_rfl) ?_))
      have hx5 : Ext w1 (w4.alloc (.cells #[.int .i64 ox, .slice fa N fc] 24)) := (Ext.trans (by repeat first | exact Ext.refl _ | assumption | refine Ext.drew ?_ | refine Ext.drewN ?_ _ | refine Ext.extBy ?_ _ | refine Ext.alloc ?_ _ | refine Ext.setCell ?_ (by simp; try omega) _ | (refine Ext.trans ?_ (by assumption))) HF.out.ext).alloc _
      have hb7 := BoxV.of_row (heap_alloc_last w4 (.cells #[.int .i64 ox, .slice fa N fc] 24))
      have HFR := Lib.hid (HF.out.rows.ext ((Ext.refl w4).alloc (.cells #[.int .i64 ox, .slice fa N fc] 24)))
      clear HF
      generalize w4.alloc (.cells #[.int .i64 ox, .slice fa N fc] 24) = w5 at hx5 hb7 HFR ⊢
      generalize w4.heap.size = X7 at hb7 ⊢
      have HX5 := Lib.hid (And.intro hx5 hb7)
      have p5 := hx5.cell p0
      have hl5 := Nat.lt_of_lt_of_le hl hx5.size
      clear hx5 hb7
      go_upto_region 7 with (first | (go_at_call 16; refine (ofC_any l _ ws _ _ (SlC.ext HG1.out HX5.out.1) HH.out.2.1 (SlC.ext HW1.out HX5.out.1) HH.out.2.2.2.1 HSZ.out).mono ?_; rintro e w6 hP; obtain ⟨ga, gc, gs, rfl, HF⟩ := hP.open HO.out.1 HO.out.2.1; clear hP) | (refine wpList_store_last rfl 24 (.tmp 9) (.tmp 39) rfl _ _ _ _ rfl rfl (by simp) (by kernel_rfl) (by kernel_rfl) (by kernel_rfl) ?_))
      have HZ0 : Hid (ZI w5 w6.heap.size ox ga N gc gs rs 0 (w6.alloc (.cells #[.int .i64 ox, .slice ga N gc] 24))) := Lib.hid (ZI.mk' HF.out HO.out.2.1 (BoxV.of_row (heap_alloc_last w6 (.cells #[.int .i64 ox, .slice ga N gc] 24))) ((Ext.refl w6).alloc _) (Nat.le_refl _))
      have HGL : Hid (gs.length = N) := Lib.hid (by rw [HF.out.len]; exact HO.out.2.1.symm)
      clear HF
      generalize w6.alloc (.cells #[.int .i64 ox, .slice ga N gc] 24) = w7 at HZ0 ⊢
      generalize w6.heap.size = X9 at HZ0 ⊢
      go_wp2
      go_loopw [11] (fun i wr => ∃ j : Nat, j ≤ N ∧ i = .int .i64 j ∧ Hid (ZI w5 X9 ox ga N gc gs rs j wr)) (fun i _ => N - (intOf i).toNat)
      case atStart => exact ⟨0, Nat.zero_le _, rfl, HZ0⟩
      case round =>
        obtain ⟨j, hj, rfl, HZ⟩ := hrel
        clear HZ0
        have q1 := HZ.out.box.cells 1 _ rfl
        by_cases hlt : j < N
        · have hji : (j : Int) < (N : Int) := Int.ofNat_lt.2 hlt
          obtain ⟨y, hy⟩ : ∃ y, gs[j]? = some y := ⟨_, List.getElem?_eq_getElem (by have := HGL.out; omega)⟩
          obtain ⟨r, hr⟩ : ∃ r, rs[j]? = some r := ⟨_, List.getElem?_eq_getElem (by have := HO.out.2.1; omega)⟩
          obtain ⟨g, rfl, q2⟩ := HZ.out.top j y (Nat.le_refl _) hy
          obtain ⟨b, m, rfl, hk⟩ := HZ.out.row j y r hy hr
          obtain ⟨L, hL⟩ : ∃ L, L = r.length := ⟨_, rfl⟩
          have HY := Lib.hid (And.intro hy (And.intro hr hL))
          have hL2 : L ≤ 200000 := by have := szF_mem (List.mem_of_getElem? hr); have := HO.out.2.2; omega
          rw [← hL] at q2
          clear hy hr hk hL
          go_wp2
          go_loopw [12] (fun i wr => ∃ k : Nat, k ≤ L ∧ i = .int .i64 k ∧ Hid (ZI w5 X9 ox (some ⟨g, 0, none⟩) N gc gs rs j wr)) (fun i _ => L - (intOf i).toNat)
          case atStart => exact ⟨0, Nat.zero_le _, rfl, HZ⟩
          case round =>
            obtain ⟨k, hk, rfl, HZ⟩ := hrel
            have q1 := HZ.out.box.cells 1 _ rfl
            have q2 : wr.cell? ⟨g, j, none⟩ = some (.slice b L m) := by
              obtain ⟨g', e1, e2⟩ := HZ.out.top j _ (Nat.le_refl _) HY.out.1
              simp only [Option.some.injEq, Addr.mk.injEq, and_true] at e1
              subst e1
              rw [HY.out.2.2]; exact e2
            by_cases hlt2 : k < L
            · have hkl : (k : Int) < (L : Int) := Int.ofNat_lt.2 hlt2
              obtain ⟨b', m', e, hkk⟩ := HZ.out.row j _ _ HY.out.1 HY.out.2.1
              simp only [Value.slice.injEq, true_and] at e
              obtain ⟨rfl, rfl⟩ := e
              obtain ⟨g', rfl, e2, e3, e4, ⟨u, e5⟩, e6⟩ := hkk k (by have := HY.out.2.2; omega)
              have HZ2 := Lib.hid (HZ.out.zero (k := k) e2 e3 e4 (.int .i64 0))
              clear hkk e2 e3 e4
              go_wp2
              exact ⟨⟨k + 1, by omega, by go_num, HZ2⟩, by simp [intOf]; omega⟩
            · have hkl : ¬ (k : Int) < (L : Int) := fun e => hlt2 (Int.ofNat_lt.1 e)
              obtain ⟨⟨u, e5⟩, e6⟩ := (HZ.out.tops g rfl).2.2 j hlt
              have HZ2 := Lib.hid (HZ.out.drop rfl (.slice none 0 0))
              go_wp2
              exact ⟨⟨j + 1, by omega, by go_num, HZ2⟩, by simp [intOf]; omega⟩
        · have hji : ¬ (j : Int) < (N : Int) := fun e => hlt (Int.ofNat_lt.1 e)
          have hxr := HZ.out.ext
          have HXr := Lib.hid (And.intro (HX5.out.1.trans hxr) (HX5.out.2.ext hxr))
          have HFRr := Lib.hid (HFR.out.ext hxr)
          have p6 := hxr.cell p5
          have hl6 := Nat.lt_of_lt_of_le hl5 hxr.size
          clear hxr HZ
          go_upto_region 16 with (first | (go_at_call 17; refine (ofR_any l _ ws _ _ (SlC.ext HG1.out HXr.out.1) HH.out.2.1 (SlC.ext HW1.out HXr.out.1) HH.out.2.2.2.1 HSZ.out).mono ?_; rintro e w6 hP; obtain ⟨ha, hc, hs, rfl, HF⟩ := hP.open HO.out.1 HO.out.2.1; clear hP) | (refine wpList_store_last rfl 24 (.tmp 13) (.tmp 73) rfl _ _ _ _ rfl rfl (by simp) (by kernel_rfl) (by kernel_rfl) (by kernel_rfl) ?_))
          have hx9 := HF.out.ext.trans ((Ext.refl w6).alloc (.cells #[.int .i64 ox, .slice ha N hc] 24))
          have hb7 := HXr.out.2.ext hx9
          have hb13 := BoxV.of_row (heap_alloc_last w6 (.cells #[.int .i64 ox, .slice ha N hc] 24))
          have HR2 := Lib.hid (And.intro (HFRr.out.ext hx9) (And.intro (HF.out.rows.ext ((Ext.refl w6).alloc (.cells #[.int .i64 ox, .slice ha N hc] 24))) (HXr.out.1.trans hx9)))
          clear HF hx9
          generalize w6.alloc (.cells #[.int .i64 ox, .slice ha N hc] 24) = w8 at hb7 hb13 HR2 ⊢
          generalize w6.heap.size = X13 at hb13 ⊢
          have r0 := hb7.cells 0 _ rfl
          have r1 := hb7.cells 1 _ rfl
          have r2 := hb13.cells 0 _ rfl
          have r3 := hb13.cells 1 _ rfl
          clear hb7 hb13
          go_wp2_with (first | (go_at_call 11; refine (num23_any _ _).mono ?_; rintro e w' ⟨rfl, rfl⟩) | (go_at_call 18; refine (sameF_any ox _ _ fs hs rs _ HR2.out.1 HR2.out.2.1 (by have := HO.out.2.2; omega)).mono ?_; rintro e w9 ⟨rfl, hx9⟩))
          go_ret
          exact ⟨rfl, (HE.out.trans HR2.out.2.2).trans hx9⟩
end Go.Proofs.YtlikmdeplpldlaaDoor

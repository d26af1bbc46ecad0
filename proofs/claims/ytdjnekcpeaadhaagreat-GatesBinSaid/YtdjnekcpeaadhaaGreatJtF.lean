/-
  The maker's walks: operations on two numbers, the plain ones.
  Condition: the maker and the lists lie in memory.
  The maker's walks: implication, equality, sizes, masks.
  Condition: the maker and the lists lie in memory.
  Appends to full slices of wires.
  Condition: the lists lie in memory.
  The maker's walks: orders.
  Condition: the maker and the lists lie in memory.
-/
import Derived.Test.YtdjnekcpeaadhaaGreatJtE
import Derived.Deep.RegionLawGrows
namespace Go.Proofs.YtdjnekcpeaadhaaGreat
open Go.RowKit Go.Maps
set_option linter.unusedSimpArgs false
set_option linter.unusedVariables false
set_option maxRecDepth 100000

/-- The maker, a value's box and its two lists. -/
structure VB (W : World) (N M : Nat) (gv0 : Value) (w0 : World) (X : Nat) (va vb : Value) (sg : Bool) (a b : List Nat) (gv : Value) (s : BSt) (w : World) : Prop where
  gb : GB W N M gv s w
  st : Stp N M gv0 gv w0 w
  bx : w.cell? ⟨X, 0, none⟩ = some (.pointer (some ⟨N, 0, none⟩)) ∧ w.cell? ⟨X, 1, none⟩ = some va ∧ w.cell? ⟨X, 2, none⟩ = some vb ∧ w.cell? ⟨X, 3, none⟩ = some (.bool sg)
  xb : X ∉ Bs N M gv
  xl : X < w.heap.size
  la : WL (Bs N M gv) w va a
  lb : WL (Bs N M gv) w vb b
section
variable {W w0 w w' : World} {N M X : Nat} {gv0 gv gv' va vb : Value} {sg : Bool} {a b : List Nat} {s s' : BSt}
theorem VB.start (h : GB W N M gv s w) (ha : WL (Bs N M gv) w va a) (hb : WL (Bs N M gv) w vb b) : VB W N M gv w w.heap.size va vb sg a b gv s (w.alloc (.cells #[.pointer (some ⟨N, 0, none⟩), va, vb, .bool sg] 71)) := by
  have hE : Ext w (w.alloc (.cells #[.pointer (some ⟨N, 0, none⟩), va, vb, .bool sg] 71)) := (Ext.refl w).alloc _
  have hX := BoxV.of_row (heap_alloc_last w (.cells #[.pointer (some ⟨N, 0, none⟩), va, vb, .bool sg] 71))
  exact ⟨h.next hE, Stp.of_ext hE, ⟨hX.cells 0 _ rfl, hX.cells 1 _ rfl, hX.cells 2 _ rfl, hX.cells 3 _ rfl⟩, fun e => Nat.lt_irrefl _ (h.lts _ e), hX.lt, ha.ext hE, hb.ext hE⟩
theorem VB.next (h : VB W N M gv0 w0 X va vb sg a b gv s w) (hx : Ext w w') : VB W N M gv0 w0 X va vb sg a b gv s w' :=
  ⟨h.gb.next hx, h.st.trans (Stp.of_ext hx), ⟨hx.cell h.bx.1, hx.cell h.bx.2.1, hx.cell h.bx.2.2.1, hx.cell h.bx.2.2.2⟩, h.xb, Nat.lt_of_lt_of_le h.xl hx.size, h.la.ext hx, h.lb.ext hx⟩
theorem VB.call (h : VB W N M gv0 w0 X va vb sg a b gv s w) (hB : GB W N M gv' s' w') (hS : Stp N M gv gv' w w') : VB W N M gv0 w0 X va vb sg a b gv' s' w' :=
  ⟨hB, h.st.trans hS, ⟨hS.kb.cell h.xb h.bx.1, hS.kb.cell h.xb h.bx.2.1, hS.kb.cell h.xb h.bx.2.2.1, hS.kb.cell h.xb h.bx.2.2.2⟩, fun e => (hS.bs X e).elim h.xb (fun e2 => absurd h.xl (Nat.not_lt.2 e2)), Nat.lt_of_lt_of_le h.xl hS.kb.size, h.la.step hS, h.lb.step hS⟩
end
theorem mf_run : ∀ (fn : Fn) (first cap : Array Value) (w : World), (Instr.makeFunc fn first cap).run Tryz.prog w = .ok (.func fn first cap) w := fun _ _ _ _ => rfl
set_option maxHeartbeats 8000000 in
theorem vadd_any (W w : World) (N M : Nat) (gv va vb : Value) (sg : Bool) (s : BSt) (a b : List Nat) (h : GB W N M gv s w) (ha : WL (Bs N M gv) w va a) (hb : WL (Bs N M gv) w vb b) (hwa : WsB a) (hwb : WsB b) (hn : a.length ≤ 10000) (hl : b.length = a.length) :
    Calls Tryz.prog 47 #[.agg #[.pointer (some ⟨N, 0, none⟩), va, vb, .bool sg]] w (RetL W N M gv (addF s a b) w) := by
  obtain ⟨R, hR⟩ : ∃ R, R = addF s a b := ⟨_, rfl⟩
  rw [← hR]
  obtain ⟨Q, hQ⟩ : ∃ Q, Q = RetL W N M gv R w := ⟨_, rfl⟩
  rw [← hQ]
  have HQ := Lib.hid hQ
  have HV1 := Lib.hid (VB.start (sg := sg) h ha hb)
  have hmf := mf_run
  obtain ⟨z, hz⟩ : ∃ z, z = zeroF s := ⟨_, rfl⟩
  obtain ⟨t, ht⟩ : ∃ t, t = sumF z.1 a b z.2 := ⟨_, rfl⟩
  have HR : Hid (R = (t.1, t.2.1)) := Lib.hid (by rw [hR, ht, hz]; rfl)
  have HZ : Hid (∀ gv1 w1, GB W N M gv1 s w1 → Calls Tryz.prog 83 #[.pointer (some ⟨N, 0, none⟩)] w1 (RetW W N M gv1 z w1)) := Lib.hid (fun gv1 w1 h1 => by rw [hz]; exact zero_any W w1 N M gv1 s h1)
  have HS : Hid (∀ gv1 w1 v u, GB W N M gv1 z.1 w1 → WL (Bs N M gv1) w1 v a → WL (Bs N M gv1) w1 u b → Calls Tryz.prog 82 #[.pointer (some ⟨N, 0, none⟩), v, u, .int .i64 (z.2 : Int)] w1 (RetS W N M gv1 t w1)) := Lib.hid (fun gv1 w1 v u h1 h2 h3 => by
    rw [ht]; exact sum_any W w1 N M gv1 v u z.1 a b z.2 h1 h2 h3 hwa hwb (by rw [hz]; exact (zeroF_wf h.wf).2) (by omega) (by omega))
  clear hz ht
  obtain ⟨X, hX⟩ : ∃ X, X = w.heap.size := ⟨_, rfl⟩
  rw [← hX] at HV1
  clear hQ h ha hb hwa hwb hR hl
  go_enter Tryz.func47, Tryz.ntmps47
  go_upto_region 1 with fail
  rw [← hX]
  clear hX
  generalize w.alloc (.cells #[.pointer (some ⟨N, 0, none⟩), va, vb, .bool sg] 71) = w1 at HV1 ⊢
  obtain ⟨p0, p1, p2, p3⟩ := HV1.out.bx
  have hlX := HV1.out.xl
  go_region_held3 (fun w' => w'.cell? ⟨X, 0, none⟩ = some (.pointer (some ⟨N, 0, none⟩)) ∧ w'.cell? ⟨X, 1, none⟩ = some va ∧ w'.cell? ⟨X, 2, none⟩ = some vb ∧ w'.cell? ⟨X, 3, none⟩ = some (.bool sg))
    (first | exact ⟨p0, p1, p2, p3⟩ | exact HV2.out.bx | exact HV3.out.bx)
    (first | (go_at_call 83; refine (HZ.out gv _ (HV1.out.next (Ext.refl w1).drew).gb).mono ?_; rintro e w2 ⟨rfl, gv2, hB2, hS2⟩; have HV2 := Lib.hid ((HV1.out.next (Ext.refl w1).drew).call hB2 hS2); clear hB2 hS2) | (go_at_call 82; refine (HS.out gv2 _ _ _ HV2.out.gb HV2.out.la HV2.out.lb).mono ?_; rintro e w3 ⟨q3, c3, gv3, rfl, H3⟩; have HV3 := Lib.hid (HV2.out.call H3.out.1 H3.out.2.1)))
  go_wp2
  rw [HQ.out, HR.out]
  exact ⟨q3, c3, gv3, rfl, Lib.hid ⟨HV3.out.gb, HV3.out.st, H3.out.2.2⟩⟩
set_option maxHeartbeats 8000000 in
theorem vsub_any (W w : World) (N M : Nat) (gv va vb : Value) (sg : Bool) (s : BSt) (a b : List Nat) (h : GB W N M gv s w) (ha : WL (Bs N M gv) w va a) (hb : WL (Bs N M gv) w vb b) (hwa : WsB a) (hwb : WsB b) (hn : a.length ≤ 10000) (hl : b.length = a.length) :
    Calls Tryz.prog 48 #[.agg #[.pointer (some ⟨N, 0, none⟩), va, vb, .bool sg]] w (RetL W N M gv (subF s a b) w) := by
  obtain ⟨R, hR⟩ : ∃ R, R = subF s a b := ⟨_, rfl⟩
  rw [← hR]
  obtain ⟨Q, hQ⟩ : ∃ Q, Q = RetL W N M gv R w := ⟨_, rfl⟩
  rw [← hQ]
  have HQ := Lib.hid hQ
  have HV1 := Lib.hid (VB.start (sg := sg) h ha hb)
  have hmf := mf_run
  obtain ⟨t, ht⟩ : ∃ t, t = lessF s a b := ⟨_, rfl⟩
  have HR : Hid (R = (t.1, t.2.1)) := Lib.hid (by rw [hR, ht]; rfl)
  have HS : Hid (∀ gv1 w1 v u, GB W N M gv1 s w1 → WL (Bs N M gv1) w1 v a → WL (Bs N M gv1) w1 u b → Calls Tryz.prog 84 #[.pointer (some ⟨N, 0, none⟩), v, u] w1 (RetS W N M gv1 t w1)) := Lib.hid (fun gv1 w1 v u h1 h2 h3 => by
    rw [ht]; exact less_any W w1 N M gv1 v u s a b h1 h2 h3 hwa hwb (by omega) (by omega))
  clear ht
  obtain ⟨X, hX⟩ : ∃ X, X = w.heap.size := ⟨_, rfl⟩
  rw [← hX] at HV1
  clear hQ h ha hb hwa hwb hR hl
  go_enter Tryz.func48, Tryz.ntmps48
  go_upto_region 1 with fail
  rw [← hX]
  clear hX
  generalize w.alloc (.cells #[.pointer (some ⟨N, 0, none⟩), va, vb, .bool sg] 71) = w1 at HV1 ⊢
  obtain ⟨p0, p1, p2, p3⟩ := HV1.out.bx
  have hlX := HV1.out.xl
  go_wp2_with (go_at_call 84; refine (HS.out gv _ _ _ HV1.out.gb HV1.out.la HV1.out.lb).mono ?_; rintro e w3 ⟨q3, c3, gv3, rfl, H3⟩; have HV3 := Lib.hid (HV1.out.call H3.out.1 H3.out.2.1))
  rw [HQ.out, HR.out]
  exact ⟨q3, c3, gv3, rfl, Lib.hid ⟨HV3.out.gb, HV3.out.st, H3.out.2.2⟩⟩
set_option maxHeartbeats 8000000 in
theorem vinv_any (W w : World) (N M : Nat) (gv va vb : Value) (sg : Bool) (s : BSt) (a b : List Nat) (h : GB W N M gv s w) (ha : WL (Bs N M gv) w va a) (hb : WL (Bs N M gv) w vb b) (hwa : WsB a) (hwb : WsB b) (hn : a.length ≤ 10000) :
    Calls Tryz.prog 45 #[.agg #[.pointer (some ⟨N, 0, none⟩), va, vb, .bool sg]] w (RetL W N M gv (invF s a) w) := by
  obtain ⟨R, hR⟩ : ∃ R, R = invF s a := ⟨_, rfl⟩
  rw [← hR]
  obtain ⟨Q, hQ⟩ : ∃ Q, Q = RetL W N M gv R w := ⟨_, rfl⟩
  rw [← hQ]
  have HQ := Lib.hid hQ
  have HV1 := Lib.hid (VB.start (sg := sg) h ha hb)
  have hmf := mf_run
  have HR := Lib.hid hR
  have HN : Hid (∀ w1, SlC w1 va a.length (wvs a) → Calls Tryz.prog 80 #[va] w1 fun e w' => ∃ p c, e = .returned (.slice p a.length c) ∧ Hid (RowF w1 w' (.slice p a.length c) (a.map flip))) := Lib.hid (fun w1 h1 => not_any a va w1 h1 hwa (by omega))
  obtain ⟨X, hX⟩ : ∃ X, X = w.heap.size := ⟨_, rfl⟩
  rw [← hX] at HV1
  clear hQ h ha hb hwa hwb hR
  go_enter Tryz.func45, Tryz.ntmps45
  go_upto_region 1 with fail
  rw [← hX]
  clear hX
  generalize w.alloc (.cells #[.pointer (some ⟨N, 0, none⟩), va, vb, .bool sg] 71) = w1 at HV1 ⊢
  obtain ⟨p0, p1, p2, p3⟩ := HV1.out.bx
  have hlX := HV1.out.xl
  go_wp2_with (go_at_call 80; refine (HN.out _ HV1.out.la.1).mono ?_; rintro e w3 ⟨q3, c3, rfl, H3⟩)
  rw [HQ.out, HR.out]
  refine ⟨q3, c3, gv, by simp [invF], Lib.hid ⟨HV1.out.gb.next H3.out.ext, HV1.out.st.trans (Stp.of_ext H3.out.ext), ?_⟩⟩
  have h1 := H3.out.wl HV1.out.gb.lts
  have e : (invF s a).2.length = a.length := by simp [invF]
  rw [e]
  exact h1
set_option maxHeartbeats 8000000 in
theorem vopp_any (W w : World) (N M : Nat) (gv va vb : Value) (sg : Bool) (s : BSt) (a b : List Nat) (h : GB W N M gv s w) (ha : WL (Bs N M gv) w va a) (hb : WL (Bs N M gv) w vb b) (hwa : WsB a) (hwb : WsB b) (hn : a.length ≤ 10000) :
    Calls Tryz.prog 46 #[.agg #[.pointer (some ⟨N, 0, none⟩), va, vb, .bool sg]] w (RetL W N M gv (negF s a) w) := by
  obtain ⟨R, hR⟩ : ∃ R, R = negF s a := ⟨_, rfl⟩
  rw [← hR]
  obtain ⟨Q, hQ⟩ : ∃ Q, Q = RetL W N M gv R w := ⟨_, rfl⟩
  rw [← hQ]
  have HQ := Lib.hid hQ
  have HV1 := Lib.hid (VB.start (sg := sg) h ha hb)
  have hmf := mf_run
  have HS : Hid (∀ gv1 w1, GB W N M gv1 s w1 → WL (Bs N M gv1) w1 va a → Calls Tryz.prog 81 #[.pointer (some ⟨N, 0, none⟩), va] w1 (RetL W N M gv1 R w1)) := Lib.hid (fun gv1 w1 h1 h2 => by rw [hR]; exact neg_any W w1 N M gv1 va s a h1 h2 hwa (by omega))
  obtain ⟨X, hX⟩ : ∃ X, X = w.heap.size := ⟨_, rfl⟩
  rw [← hX] at HV1
  clear hQ h ha hb hwa hwb hR
  go_enter Tryz.func46, Tryz.ntmps46
  go_upto_region 1 with fail
  rw [← hX]
  clear hX
  generalize w.alloc (.cells #[.pointer (some ⟨N, 0, none⟩), va, vb, .bool sg] 71) = w1 at HV1 ⊢
  obtain ⟨p0, p1, p2, p3⟩ := HV1.out.bx
  have hlX := HV1.out.xl
  go_wp2_with (go_at_call 81; refine (HS.out gv _ HV1.out.gb HV1.out.la).mono ?_; rintro e w3 ⟨q3, c3, gv3, rfl, H3⟩; have HV3 := Lib.hid (HV1.out.call H3.out.1 H3.out.2.1))
  rw [HQ.out]
  exact ⟨q3, c3, gv3, rfl, Lib.hid ⟨HV3.out.gb, HV3.out.st, H3.out.2.2⟩⟩
set_option maxHeartbeats 8000000 in
theorem vand_any (W w : World) (N M : Nat) (gv va vb : Value) (sg : Bool) (s : BSt) (a b : List Nat) (h : GB W N M gv s w) (ha : WL (Bs N M gv) w va a) (hb : WL (Bs N M gv) w vb b) (hwa : WsB a) (hwb : WsB b) (hn : a.length ≤ 10000) (hl : b.length = a.length) :
    Calls Tryz.prog 52 #[.agg #[.pointer (some ⟨N, 0, none⟩), va, vb, .bool sg]] w (RetL W N M gv (bandF s a b) w) := by
  obtain ⟨R, hR⟩ : ∃ R, R = bandF s a b := ⟨_, rfl⟩
  rw [← hR]
  obtain ⟨Q, hQ⟩ : ∃ Q, Q = RetL W N M gv R w := ⟨_, rfl⟩
  rw [← hQ]
  have HQ := Lib.hid hQ
  have HV1 := Lib.hid (VB.start (sg := sg) h ha hb)
  have hmf := mf_run
  have HS : Hid (∀ gv1 w1, GB W N M gv1 s w1 → WL (Bs N M gv1) w1 va a → WL (Bs N M gv1) w1 vb b → Calls Tryz.prog 86 #[va, vb, .func (.func 87) #[.pointer (some ⟨N, 0, none⟩)] #[]] w1 (RetL W N M gv1 R w1)) := Lib.hid (fun gv1 w1 h1 h2 h3 => by rw [hR]; exact eachAnd_any W w1 N M gv1 va vb s a b h1 h2 h3 hwa hwb (by omega) (by omega))
  obtain ⟨X, hX⟩ : ∃ X, X = w.heap.size := ⟨_, rfl⟩
  rw [← hX] at HV1
  clear hQ h ha hb hwa hwb hR hl
  go_enter Tryz.func52, Tryz.ntmps52
  go_upto_region 1 with fail
  rw [← hX]
  clear hX
  generalize w.alloc (.cells #[.pointer (some ⟨N, 0, none⟩), va, vb, .bool sg] 71) = w1 at HV1 ⊢
  obtain ⟨p0, p1, p2, p3⟩ := HV1.out.bx
  have hlX := HV1.out.xl
  go_wp2_with (go_at_call 86; refine (HS.out gv _ HV1.out.gb HV1.out.la HV1.out.lb).mono ?_; rintro e w3 ⟨q3, c3, gv3, rfl, H3⟩; have HV3 := Lib.hid (HV1.out.call H3.out.1 H3.out.2.1))
  rw [HQ.out]
  exact ⟨q3, c3, gv3, rfl, Lib.hid ⟨HV3.out.gb, HV3.out.st, H3.out.2.2⟩⟩
set_option maxHeartbeats 8000000 in
theorem vor_any (W w : World) (N M : Nat) (gv va vb : Value) (sg : Bool) (s : BSt) (a b : List Nat) (h : GB W N M gv s w) (ha : WL (Bs N M gv) w va a) (hb : WL (Bs N M gv) w vb b) (hwa : WsB a) (hwb : WsB b) (hn : a.length ≤ 10000) (hl : b.length = a.length) :
    Calls Tryz.prog 53 #[.agg #[.pointer (some ⟨N, 0, none⟩), va, vb, .bool sg]] w (RetL W N M gv (borF s a b) w) := by
  obtain ⟨R, hR⟩ : ∃ R, R = borF s a b := ⟨_, rfl⟩
  rw [← hR]
  obtain ⟨Q, hQ⟩ : ∃ Q, Q = RetL W N M gv R w := ⟨_, rfl⟩
  rw [← hQ]
  have HQ := Lib.hid hQ
  have HV1 := Lib.hid (VB.start (sg := sg) h ha hb)
  have hmf := mf_run
  have HS : Hid (∀ gv1 w1, GB W N M gv1 s w1 → WL (Bs N M gv1) w1 va a → WL (Bs N M gv1) w1 vb b → Calls Tryz.prog 86 #[va, vb, .func (.func 94) #[.pointer (some ⟨N, 0, none⟩)] #[]] w1 (RetL W N M gv1 R w1)) := Lib.hid (fun gv1 w1 h1 h2 h3 => by rw [hR]; exact eachOr_any W w1 N M gv1 va vb s a b h1 h2 h3 hwa hwb (by omega) (by omega))
  obtain ⟨X, hX⟩ : ∃ X, X = w.heap.size := ⟨_, rfl⟩
  rw [← hX] at HV1
  clear hQ h ha hb hwa hwb hR hl
  go_enter Tryz.func53, Tryz.ntmps53
  go_upto_region 1 with fail
  rw [← hX]
  clear hX
  generalize w.alloc (.cells #[.pointer (some ⟨N, 0, none⟩), va, vb, .bool sg] 71) = w1 at HV1 ⊢
  obtain ⟨p0, p1, p2, p3⟩ := HV1.out.bx
  have hlX := HV1.out.xl
  go_wp2_with (go_at_call 86; refine (HS.out gv _ HV1.out.gb HV1.out.la HV1.out.lb).mono ?_; rintro e w3 ⟨q3, c3, gv3, rfl, H3⟩; have HV3 := Lib.hid (HV1.out.call H3.out.1 H3.out.2.1))
  rw [HQ.out]
  exact ⟨q3, c3, gv3, rfl, Lib.hid ⟨HV3.out.gb, HV3.out.st, H3.out.2.2⟩⟩
set_option maxHeartbeats 8000000 in
theorem vxor_any (W w : World) (N M : Nat) (gv va vb : Value) (sg : Bool) (s : BSt) (a b : List Nat) (h : GB W N M gv s w) (ha : WL (Bs N M gv) w va a) (hb : WL (Bs N M gv) w vb b) (hwa : WsB a) (hwb : WsB b) (hn : a.length ≤ 10000) (hl : b.length = a.length) :
    Calls Tryz.prog 54 #[.agg #[.pointer (some ⟨N, 0, none⟩), va, vb, .bool sg]] w (RetL W N M gv (bxorF s a b) w) := by
  obtain ⟨R, hR⟩ : ∃ R, R = bxorF s a b := ⟨_, rfl⟩
  rw [← hR]
  obtain ⟨Q, hQ⟩ : ∃ Q, Q = RetL W N M gv R w := ⟨_, rfl⟩
  rw [← hQ]
  have HQ := Lib.hid hQ
  have HV1 := Lib.hid (VB.start (sg := sg) h ha hb)
  have hmf := mf_run
  have HS : Hid (∀ gv1 w1, GB W N M gv1 s w1 → WL (Bs N M gv1) w1 va a → WL (Bs N M gv1) w1 vb b → Calls Tryz.prog 86 #[va, vb, .func (.func 91) #[.pointer (some ⟨N, 0, none⟩)] #[]] w1 (RetL W N M gv1 R w1)) := Lib.hid (fun gv1 w1 h1 h2 h3 => by rw [hR]; exact eachXor_any W w1 N M gv1 va vb s a b h1 h2 h3 hwa hwb (by omega) (by omega))
  obtain ⟨X, hX⟩ : ∃ X, X = w.heap.size := ⟨_, rfl⟩
  rw [← hX] at HV1
  clear hQ h ha hb hwa hwb hR hl
  go_enter Tryz.func54, Tryz.ntmps54
  go_upto_region 1 with fail
  rw [← hX]
  clear hX
  generalize w.alloc (.cells #[.pointer (some ⟨N, 0, none⟩), va, vb, .bool sg] 71) = w1 at HV1 ⊢
  obtain ⟨p0, p1, p2, p3⟩ := HV1.out.bx
  have hlX := HV1.out.xl
  go_wp2_with (go_at_call 86; refine (HS.out gv _ HV1.out.gb HV1.out.la HV1.out.lb).mono ?_; rintro e w3 ⟨q3, c3, gv3, rfl, H3⟩; have HV3 := Lib.hid (HV1.out.call H3.out.1 H3.out.2.1))
  rw [HQ.out]
  exact ⟨q3, c3, gv3, rfl, Lib.hid ⟨HV3.out.gb, HV3.out.st, H3.out.2.2⟩⟩
end Go.Proofs.YtdjnekcpeaadhaaGreat
namespace Go.Proofs.YtdjnekcpeaadhaaGreat
open Go.RowKit Go.Maps
set_option linter.unusedSimpArgs false
set_option linter.unusedVariables false
set_option maxRecDepth 100000

/-- A literal of one wire. -/
theorem WL.lit {N M : Nat} {gv : Value} {w : World} {x nb : Nat} (hn : nb = w.heap.size) (hB : ∀ b ∈ Bs N M gv, b < w.heap.size) : WL (Bs N M gv) (w.alloc (.cells #[.int .i64 (x : Int)] 3)) (.slice (some ⟨nb, 0, none⟩) 1 1) [x] :=
  ⟨SlC.fresh w #[.int .i64 (x : Int)] _ 1 nb hn (by decide), fun _ b hb e => by
    have := hB b hb
    simp [Value.ownBlock] at e
    omega⟩
theorem RetL.one {W w w1 : World} {N M : Nat} {gv gv1 : Value} {r : BR} {nb : Nat} (hn : nb = w1.heap.size) (hB : GB W N M gv1 r.1 w1) (hS : Stp N M gv gv1 w w1) : RetL W N M gv (r.1, [r.2]) w (.returned (.slice (some ⟨nb, 0, none⟩) 1 1)) (w1.alloc (.cells #[.int .i64 (r.2 : Int)] 3)) :=
  ⟨_, _, gv1, rfl, Lib.hid ⟨hB.next ((Ext.refl w1).alloc _), hS.trans (Stp.of_ext ((Ext.refl w1).alloc _)), WL.lit hn hB.lts⟩⟩
set_option maxHeartbeats 8000000 in
theorem vimp_any (W w : World) (N M : Nat) (gv va vb : Value) (sg : Bool) (s : BSt) (a b : List Nat) (h : GB W N M gv s w) (ha : WL (Bs N M gv) w va a) (hb : WL (Bs N M gv) w vb b) (hwa : WsB a) (hwb : WsB b) (hn : a.length ≤ 10000) (hl : b.length = a.length) (h0 : 0 < a.length) :
    Calls Tryz.prog 55 #[.agg #[.pointer (some ⟨N, 0, none⟩), va, vb, .bool sg]] w (RetL W N M gv (impF s a b) w) := by
  obtain ⟨R, hR⟩ : ∃ R, R = impF s a b := ⟨_, rfl⟩
  rw [← hR]
  obtain ⟨Q, hQ⟩ : ∃ Q, Q = RetL W N M gv R w := ⟨_, rfl⟩
  rw [← hQ]
  have HQ := Lib.hid hQ
  have HV1 := Lib.hid (VB.start (sg := sg) h ha hb)
  have hmf := mf_run
  obtain ⟨x, hx⟩ : ∃ x, a[0]? = some x := ⟨_, List.getElem?_eq_getElem h0⟩
  obtain ⟨y, hy⟩ : ∃ y, b[0]? = some y := ⟨_, List.getElem?_eq_getElem (by omega)⟩
  obtain ⟨pa, ca, rfl, hna, hma, -⟩ := id ha.1
  obtain ⟨pb, cb, rfl, hnb, hmb, -⟩ := id hb.1
  obtain ⟨b0, o0, rfl, hcx, hbx, hnx⟩ := ha.get hx
  obtain ⟨b1, o1, rfl, hcy, hby, hny⟩ := hb.get hy
  have hwx := hwa x (List.mem_of_getElem? hx)
  have hwy := hwb y (List.mem_of_getElem? hy)
  obtain ⟨r, hr⟩ : ∃ r, r = orF s (flip x) y := ⟨_, rfl⟩
  have HR : Hid (R = (r.1, [r.2])) := Lib.hid (by rw [hR, hr]; unfold impF; rw [List.getD_eq_getElem?_getD, hx, List.getD_eq_getElem?_getD, hy]; rfl)
  have HO : Hid (∀ gv1 w1, GB W N M gv1 s w1 → Calls Tryz.prog 94 #[.pointer (some ⟨N, 0, none⟩), .int .i64 ((flip x : Nat) : Int), .int .i64 (y : Int)] w1 (RetW W N M gv1 r w1)) := Lib.hid (fun gv1 w1 h1 => by rw [hr]; exact or_any W w1 N M gv1 s (flip x) y h1 hwx.flip hwy)
  have HCC : Hid (∀ {g1 : Value} {w1 : World}, Stp N M gv g1 w w1 → w1.cell? ⟨b0, o0, none⟩ = some (.int .i64 (x : Int)) ∧ w1.cell? ⟨b1, o1, none⟩ = some (.int .i64 (y : Int))) := Lib.hid (fun h1 => ⟨h1.kb.cell hnx hcx, h1.kb.cell hny hcy⟩)
  have fx := bits_flip x hwx
  obtain ⟨n, hnn⟩ : ∃ n, n = a.length := ⟨_, rfl⟩
  obtain ⟨m, hmm⟩ : ∃ m, m = b.length := ⟨_, rfl⟩
  rw [← hnn] at h0 hn hna HV1
  rw [← hmm] at hnb HV1
  rw [← hnn, ← hmm] at hl ⊢
  have hcI : (ca : Int) ≤ 9223372036854775807 := by unfold maxLen at hma; omega
  have hcJ : (cb : Int) ≤ 9223372036854775807 := by unfold maxLen at hmb; omega
  have hbl0 : b0 < w.heap.size := hbx
  have hbl1 : b1 < w.heap.size := hby
  have hmc : 0 < ca := by omega
  have hmd : 0 < cb := by omega
  have hm0 : 0 < m := by omega
  clear hx hy hwx hwy hr hcx hcy hnx hny hbx hby hnn hmm hma hmb
  obtain ⟨X, hX⟩ : ∃ X, X = w.heap.size := ⟨_, rfl⟩
  rw [← hX] at HV1
  clear hQ h ha hb hwa hwb hR hl
  go_enter Tryz.func55, Tryz.ntmps55
  go_upto_region 1 with fail
  rw [← hX]
  clear hX
  generalize w.alloc (.cells #[.pointer (some ⟨N, 0, none⟩), (.slice (some ⟨b0, o0, none⟩) n ca), (.slice (some ⟨b1, o1, none⟩) m cb), .bool sg] 71) = w1 at HV1 ⊢
  obtain ⟨p0, p1, p2, p3⟩ := HV1.out.bx
  have hlX := HV1.out.xl
  have hc2 := HCC.out HV1.out.st
  have hbl2 : b0 < w1.heap.size := Nat.lt_of_lt_of_le hbl0 HV1.out.st.kb.size
  have hbl3 : b1 < w1.heap.size := Nat.lt_of_lt_of_le hbl1 HV1.out.st.kb.size
  go_region_held3 (fun w' => w'.cell? ⟨X, 0, none⟩ = some (.pointer (some ⟨N, 0, none⟩)) ∧ w'.cell? ⟨X, 1, none⟩ = some (.slice (some ⟨b0, o0, none⟩) n ca) ∧ w'.cell? ⟨X, 2, none⟩ = some (.slice (some ⟨b1, o1, none⟩) m cb) ∧ w'.cell? ⟨b0, o0, none⟩ = some (.int .i64 (x : Int)) ∧ w'.cell? ⟨b1, o1, none⟩ = some (.int .i64 (y : Int)))
    (first | exact ⟨p0, p1, p2, hc2.1, hc2.2⟩ | exact ⟨HV2.out.bx.1, HV2.out.bx.2.1, HV2.out.bx.2.2.1, (HCC.out HV2.out.st).1, (HCC.out HV2.out.st).2⟩ | exact ⟨(HV2.out.next ((Ext.refl w2).alloc _)).bx.1, (HV2.out.next ((Ext.refl w2).alloc _)).bx.2.1, (HV2.out.next ((Ext.refl w2).alloc _)).bx.2.2.1, (HCC.out (HV2.out.next ((Ext.refl w2).alloc _)).st).1, (HCC.out (HV2.out.next ((Ext.refl w2).alloc _)).st).2⟩)
    (first | (go_at_call 94; refine (HO.out gv _ (HV1.out.next (Ext.refl w1).drew).gb).mono ?_; rintro e w2 ⟨rfl, gv2, hB2, hS2⟩; have HV2 := Lib.hid ((HV1.out.next (Ext.refl w1).drew).call hB2 hS2); clear hB2 hS2))
  go_wp2
  rw [HQ.out, HR.out]
  exact RetL.one (by first | rfl | simp) HV2.out.gb HV2.out.st
set_option maxHeartbeats 8000000 in
theorem vne_any (W w : World) (N M : Nat) (gv va vb : Value) (sg : Bool) (s : BSt) (a b : List Nat) (h : GB W N M gv s w) (ha : WL (Bs N M gv) w va a) (hb : WL (Bs N M gv) w vb b) (hwa : WsB a) (hwb : WsB b) (hn : a.length ≤ 10000) (hl : b.length = a.length) :
    Calls Tryz.prog 59 #[.agg #[.pointer (some ⟨N, 0, none⟩), va, vb, .bool sg]] w (RetL W N M gv (neF s a b) w) := by
  obtain ⟨R, hR⟩ : ∃ R, R = neF s a b := ⟨_, rfl⟩
  rw [← hR]
  obtain ⟨Q, hQ⟩ : ∃ Q, Q = RetL W N M gv R w := ⟨_, rfl⟩
  rw [← hQ]
  have HQ := Lib.hid hQ
  have HV1 := Lib.hid (VB.start (sg := sg) h ha hb)
  have hmf := mf_run
  obtain ⟨x, hx⟩ : ∃ x, x = bxorF s a b := ⟨_, rfl⟩
  have wx : BWf x.1 ∧ WsB x.2 ∧ x.2.length = a.length := by rw [hx]; exact eachF_wf okXor a b h.wf hwa hwb
  obtain ⟨r, hr⟩ : ∃ r, r = anyF x.1 x.2 := ⟨_, rfl⟩
  have HR : Hid (R = (r.1, [r.2])) := Lib.hid (by rw [hR, hr, hx]; rfl)
  have HX : Hid (∀ gv1 w1, GB W N M gv1 s w1 → WL (Bs N M gv1) w1 va a → WL (Bs N M gv1) w1 vb b → Calls Tryz.prog 54 #[.agg #[.pointer (some ⟨N, 0, none⟩), va, vb, .bool sg]] w1 (RetL W N M gv1 x w1)) := Lib.hid (fun gv1 w1 h1 h2 h3 => by rw [hx]; exact vxor_any W w1 N M gv1 va vb sg s a b h1 h2 h3 hwa hwb hn hl)
  have HA : Hid (∀ gv1 w1 v, GB W N M gv1 x.1 w1 → WL (Bs N M gv1) w1 v x.2 → Calls Tryz.prog 97 #[.pointer (some ⟨N, 0, none⟩), v] w1 (RetW W N M gv1 r w1)) := Lib.hid (fun gv1 w1 v h1 h2 => by rw [hr]; exact anyB_any W w1 N M gv1 v x.1 x.2 h1 h2 wx.2.1 (by omega))
  clear hx hr wx
  obtain ⟨X, hX⟩ : ∃ X, X = w.heap.size := ⟨_, rfl⟩
  rw [← hX] at HV1
  clear hQ h ha hb hwa hwb hR hl
  go_enter Tryz.func59, Tryz.ntmps59
  go_upto_region 1 with fail
  rw [← hX]
  clear hX
  generalize w.alloc (.cells #[.pointer (some ⟨N, 0, none⟩), va, vb, .bool sg] 71) = w1 at HV1 ⊢
  obtain ⟨p0, p1, p2, p3⟩ := HV1.out.bx
  have hlX := HV1.out.xl
  go_region_held3 (fun w' => w'.cell? ⟨X, 0, none⟩ = some (.pointer (some ⟨N, 0, none⟩)) ∧ w'.cell? ⟨X, 1, none⟩ = some va ∧ w'.cell? ⟨X, 2, none⟩ = some vb ∧ w'.cell? ⟨X, 3, none⟩ = some (.bool sg))
    (first | exact ⟨p0, p1, p2, p3⟩ | exact HV2.out.bx | exact HV3.out.bx | exact (HV3.out.next ((Ext.refl w3).alloc _)).bx)
    (first | (go_at_call 54; refine (HX.out gv _ (HV1.out.next (Ext.refl w1).drew).gb (HV1.out.next (Ext.refl w1).drew).la (HV1.out.next (Ext.refl w1).drew).lb).mono ?_; rintro e w2 ⟨q2, c2, gv2, rfl, H2⟩; have HV2 := Lib.hid ((HV1.out.next (Ext.refl w1).drew).call H2.out.1 H2.out.2.1)) | (go_at_call 97; refine (HA.out gv2 _ _ H2.out.1 H2.out.2.2).mono ?_; rintro e w3 ⟨rfl, gv3, hB3, hS3⟩; have HV3 := Lib.hid (HV2.out.call hB3 hS3); clear hB3 hS3))
  go_wp2
  rw [HQ.out, HR.out]
  exact RetL.one (by first | rfl | simp) HV3.out.gb HV3.out.st
theorem neF_wf {s : BSt} {a b : List Nat} (h : BWf s) (ha : WsB a) (hb : WsB b) : WsB (neF s a b).2 ∧ (neF s a b).2.length ≤ 100000 :=
  ⟨WsB.one (anyF_wf (eachF_wf okXor a b h ha hb).1 (eachF_wf okXor a b h ha hb).2.1).2, by simp [neF]⟩
set_option maxHeartbeats 8000000 in
theorem veq_any (W w : World) (N M : Nat) (gv va vb : Value) (sg : Bool) (s : BSt) (a b : List Nat) (h : GB W N M gv s w) (ha : WL (Bs N M gv) w va a) (hb : WL (Bs N M gv) w vb b) (hwa : WsB a) (hwb : WsB b) (hn : a.length ≤ 10000) (hl : b.length = a.length) :
    Calls Tryz.prog 58 #[.agg #[.pointer (some ⟨N, 0, none⟩), va, vb, .bool sg]] w (RetL W N M gv (eqF s a b) w) := by
  obtain ⟨R, hR⟩ : ∃ R, R = eqF s a b := ⟨_, rfl⟩
  rw [← hR]
  obtain ⟨Q, hQ⟩ : ∃ Q, Q = RetL W N M gv R w := ⟨_, rfl⟩
  rw [← hQ]
  have HQ := Lib.hid hQ
  have HV1 := Lib.hid (VB.start (sg := sg) h ha hb)
  have hmf := mf_run
  obtain ⟨x, hx⟩ : ∃ x, x = neF s a b := ⟨_, rfl⟩
  have wx : WsB x.2 ∧ x.2.length ≤ 100000 := by rw [hx]; exact neF_wf h.wf hwa hwb
  have HR : Hid (R = (x.1, x.2.map flip)) := Lib.hid (by rw [hR, hx]; rfl)
  have HX : Hid (∀ gv1 w1, GB W N M gv1 s w1 → WL (Bs N M gv1) w1 va a → WL (Bs N M gv1) w1 vb b → Calls Tryz.prog 59 #[.agg #[.pointer (some ⟨N, 0, none⟩), va, vb, .bool sg]] w1 (RetL W N M gv1 x w1)) := Lib.hid (fun gv1 w1 h1 h2 h3 => by rw [hx]; exact vne_any W w1 N M gv1 va vb sg s a b h1 h2 h3 hwa hwb hn hl)
  have HN : Hid (∀ w1 v, SlC w1 v x.2.length (wvs x.2) → Calls Tryz.prog 80 #[v] w1 fun e w' => ∃ p c, e = .returned (.slice p x.2.length c) ∧ Hid (RowF w1 w' (.slice p x.2.length c) (x.2.map flip))) := Lib.hid (fun w1 v h1 => not_any x.2 v w1 h1 wx.1 wx.2)
  clear hx wx
  obtain ⟨X, hX⟩ : ∃ X, X = w.heap.size := ⟨_, rfl⟩
  rw [← hX] at HV1
  clear hQ h ha hb hwa hwb hR hl
  go_enter Tryz.func58, Tryz.ntmps58
  go_upto_region 1 with fail
  rw [← hX]
  clear hX
  generalize w.alloc (.cells #[.pointer (some ⟨N, 0, none⟩), va, vb, .bool sg] 71) = w1 at HV1 ⊢
  obtain ⟨p0, p1, p2, p3⟩ := HV1.out.bx
  have hlX := HV1.out.xl
  go_wp2_with (first | (go_at_call 59; refine (HX.out gv _ HV1.out.gb HV1.out.la HV1.out.lb).mono ?_; rintro e w2 ⟨q2, c2, gv2, rfl, H2⟩; have HV2 := Lib.hid (HV1.out.call H2.out.1 H2.out.2.1)) | (go_at_call 80; refine (HN.out _ _ H2.out.2.2.1).mono ?_; rintro e w3 ⟨q3, c3, rfl, H3⟩))
  rw [HQ.out, HR.out]
  have e : ((x.1, x.2.map flip) : BL).2.length = x.2.length := by simp
  refine ⟨q3, c3, gv2, by rw [e]; rfl, Lib.hid ⟨HV2.out.gb.next H3.out.ext, HV2.out.st.trans (Stp.of_ext H3.out.ext), ?_⟩⟩
  rw [e]
  exact H3.out.wl HV2.out.gb.lts
end Go.Proofs.YtdjnekcpeaadhaaGreat
namespace Go.Proofs.YtdjnekcpeaadhaaGreat
open Go.RowKit Go.Maps
set_option linter.unusedSimpArgs false
set_option linter.unusedVariables false
set_option maxRecDepth 100000

/-- The head of a slice, its capacity cut. -/
theorem SlC.cut {w : World} {p : Option Addr} {n c : Nat} {xs : List Value} (h : SlC w (.slice p n c) n xs) (m k : Nat) (hm : m ≤ k) (hk : k ≤ c) : SlC w (.slice p m k) m (xs.take m) := by
  obtain ⟨a, cap, e, h1, h2, h3⟩ := h
  simp only [Value.slice.injEq] at e
  obtain ⟨rfl, -, rfl⟩ := e
  refine ⟨p, k, rfl, hm, by omega, fun j u hu => h3 j u ?_⟩
  rw [List.getElem?_take] at hu
  split at hu
  · exact hu
  · cases hu
theorem SlC.parts {w : World} {v : Value} {m : Nat} {xs : List Value} (h : SlC w v m xs) (h0 : 0 < xs.length) : ∃ b o c, v = .slice (some ⟨b, o, none⟩) m c ∧ ∀ j u, xs[j]? = some u → w.cell? ((⟨b, o, none⟩ : Addr).add j) = some u := by
  obtain ⟨a, cap, rfl, h1, h2, h3⟩ := h
  obtain ⟨b, o, rfl, -⟩ := h3 0 _ (List.getElem?_eq_getElem h0)
  refine ⟨b, o, cap, rfl, fun j u hu => ?_⟩
  obtain ⟨b', o', e, hc⟩ := h3 j u hu
  simp only [Option.some.injEq, Addr.mk.injEq] at e
  obtain ⟨rfl, rfl, -⟩ := e
  rw [Go.WideShapes.add_plain]
  exact hc
section
variable {w : World} {ops : Array Oper} {o : Oper} {a : Act} {Q : Exit → Act → World → Prop}
theorem step_append_full {K : Act → World → Prop} {E : Prop} (hgd : o.guard = none) (s x : Operand) (ho : o.op = .call { callee := .builtin .append, args := #[s, x], argTypes := #[29, 29] })
    (p : Option Addr) (n : Nat) (xs : List Value) (hs : a.eval s = .slice p n n) (hsl : SlC w (.slice p n n) n xs) (hxl : xs.length = n) (xv : Value) (m : Nat) (news : List Value) (hxv : a.eval x = xv) (hx : SlC w xv m news) (hl : news.length = m) (h1 : ∀ u ∈ news, u.oneCell' = true) (h0 : 0 < m)
    (hb : n + m ≤ 1000000)
    (h : ∀ v' w', w'.ownsRow w.heap.size 3 1 v' (n + m) (xs ++ news) → w.grownBy w' none → K (a.put o.dst v') w') :
    if Region.wanted o (yielded ops a.tmps) = true then Oper.wp Tryz.prog o a w K Q else E := by
  obtain ⟨b, o', c, rfl, hc⟩ := hx.parts (by omega)
  obtain ⟨i0, hi, hz0, hz1, hz2⟩ := info_parts infoInt
  have hpa : ∀ b, p = some b → ∀ j u, xs[j]? = some u → w.cell? (b.add j) = some u := fun b e j u hu => by
    obtain ⟨a', cap, e1, -, -, h3⟩ := hsl
    simp only [Value.slice.injEq] at e1
    obtain ⟨b', o'', e2, hcell⟩ := h3 j u hu
    have e3 : b = ⟨b', o'', none⟩ := by
      have := e.symm.trans (e1.1.trans e2)
      exact Option.some.inj this
    rw [e3, Go.WideShapes.add_plain]; exact hcell
  refine step_append_grows hgd s x 29 ho 3 i0 (.int .i64 0) 1 8 Tryz.underlying29 hi hz0 hz1 hz2 rfl (by decide) p n n xs hs (fun e => ?_) (by omega) hpa ⟨b, o', none⟩ m c news hxv (by omega) hc h1 (by omega) (by unfold maxLen; omega) (by omega) h
  subst e
  obtain ⟨a', cap, e1, -, -, h3⟩ := hsl
  simp only [Value.slice.injEq] at e1
  have hn : n = 0 := by
    rcases Nat.eq_zero_or_pos n with h | h
    · exact h
    · obtain ⟨b', o'', e2, -⟩ := h3 0 _ (List.getElem?_eq_getElem (by omega : 0 < xs.length))
      rw [← e1.1] at e2; cases e2
  exact ⟨hn, hn⟩
end
theorem wvs_append (l m : List Nat) : wvs (l ++ m) = wvs l ++ wvs m := by simp [wvs]
theorem wvs_take (l : List Nat) (n : Nat) : (wvs l).take n = wvs (l.take n) := by simp [wvs, List.map_take]
/-- What an append to a full slice of wires leaves. -/
theorem WL.app {N M : Nat} {gv v' : Value} {w w' : World} {l m : List Nat} {k : Nat} (hk : k = (l ++ m).length) (h : w'.ownsRow w.heap.size 3 1 v' k (wvs l ++ wvs m)) (hB : ∀ b ∈ Bs N M gv, b < w.heap.size) : WL (Bs N M gv) w' v' (l ++ m) := by
  subst hk
  exact WL.own (w := w) (by rw [wvs_append]; exact h) hB
end Go.Proofs.YtdjnekcpeaadhaaGreat
namespace Go.Proofs.YtdjnekcpeaadhaaGreat
open Go.RowKit Go.Maps
set_option linter.unusedSimpArgs false
set_option linter.unusedVariables false
set_option maxRecDepth 100000

theorem geF_wf {sg : Bool} {s : BSt} {a b : List Nat} (h : BWf s) (ha : WsB a) (hb : WsB b) : WsB (geF sg s a b).2 ∧ (geF sg s a b).2.length ≤ 100000 := by
  refine ⟨WsB.one ?_, by simp [geF]⟩
  split
  · exact (lessF_wf h ((ha.take _).append (WsB.one (hb.getD _))) ((hb.take _).append (WsB.one (ha.getD _)))).2.2.1
  · exact (lessF_wf h ha hb).2.2.1
theorem RetL.cy {W w w1 : World} {N M : Nat} {gv gv1 : Value} {t : BSt × List Nat × Nat} {nb : Nat} (hn : nb = w1.heap.size) (hB : GB W N M gv1 t.1 w1) (hS : Stp N M gv gv1 w w1) : RetL W N M gv (t.1, [t.2.2]) w (.returned (.slice (some ⟨nb, 0, none⟩) 1 1)) (w1.alloc (.cells #[.int .i64 (t.2.2 : Int)] 3)) :=
  ⟨_, _, gv1, rfl, Lib.hid ⟨hB.next ((Ext.refl w1).alloc _), hS.trans (Stp.of_ext ((Ext.refl w1).alloc _)), WL.lit hn hB.lts⟩⟩
set_option maxHeartbeats 8000000 in
theorem vgeU_any (W w : World) (N M : Nat) (gv va vb : Value) (s : BSt) (a b : List Nat) (h : GB W N M gv s w) (ha : WL (Bs N M gv) w va a) (hb : WL (Bs N M gv) w vb b) (hwa : WsB a) (hwb : WsB b) (hn : a.length ≤ 10000) (hl : b.length = a.length) :
    Calls Tryz.prog 63 #[.agg #[.pointer (some ⟨N, 0, none⟩), va, vb, .bool false]] w (RetL W N M gv (geF false s a b) w) := by
  obtain ⟨R, hR⟩ : ∃ R, R = geF false s a b := ⟨_, rfl⟩
  rw [← hR]
  obtain ⟨Q, hQ⟩ : ∃ Q, Q = RetL W N M gv R w := ⟨_, rfl⟩
  rw [← hQ]
  have HQ := Lib.hid hQ
  have HV1 := Lib.hid (VB.start (sg := false) h ha hb)
  have hmf := mf_run
  obtain ⟨t, ht⟩ : ∃ t, t = lessF s a b := ⟨_, rfl⟩
  have HR : Hid (R = (t.1, [t.2.2])) := Lib.hid (by rw [hR, ht]; rfl)
  have HS : Hid (∀ gv1 w1 v u, GB W N M gv1 s w1 → WL (Bs N M gv1) w1 v a → WL (Bs N M gv1) w1 u b → Calls Tryz.prog 84 #[.pointer (some ⟨N, 0, none⟩), v, u] w1 (RetS W N M gv1 t w1)) := Lib.hid (fun gv1 w1 v u h1 h2 h3 => by
    rw [ht]; exact less_any W w1 N M gv1 v u s a b h1 h2 h3 hwa hwb (by omega) (by omega))
  clear ht
  obtain ⟨X, hX⟩ : ∃ X, X = w.heap.size := ⟨_, rfl⟩
  rw [← hX] at HV1
  clear hQ h ha hb hwa hwb hR hl
  go_enter Tryz.func63, Tryz.ntmps63
  go_upto_region 1 with fail
  rw [← hX]
  clear hX
  generalize w.alloc (.cells #[.pointer (some ⟨N, 0, none⟩), va, vb, .bool false] 71) = w1 at HV1 ⊢
  obtain ⟨p0, p1, p2, p3⟩ := HV1.out.bx
  have hlX := HV1.out.xl
  go_region
  go_wp2_with (go_at_call 84; refine (HS.out gv _ _ _ (HV1.out.next (Ext.refl w1).drew).gb (HV1.out.next (Ext.refl w1).drew).la (HV1.out.next (Ext.refl w1).drew).lb).mono ?_; rintro e w3 ⟨q3, c3, gv3, rfl, H3⟩; have HV3 := Lib.hid ((HV1.out.next (Ext.refl w1).drew).call H3.out.1 H3.out.2.1))
  rw [HQ.out, HR.out]
  exact RetL.cy (by first | rfl | simp) HV3.out.gb HV3.out.st
set_option maxHeartbeats 8000000 in
theorem vgeS_any (W w : World) (N M : Nat) (gv va vb : Value) (s : BSt) (a b : List Nat) (h : GB W N M gv s w) (ha : WL (Bs N M gv) w va a) (hb : WL (Bs N M gv) w vb b) (hwa : WsB a) (hwb : WsB b) (hn : a.length ≤ 10000) (hl : b.length = a.length) (h0 : 0 < a.length) :
    Calls Tryz.prog 63 #[.agg #[.pointer (some ⟨N, 0, none⟩), va, vb, .bool true]] w (RetL W N M gv (geF true s a b) w) := by
  obtain ⟨R, hR⟩ : ∃ R, R = geF true s a b := ⟨_, rfl⟩
  rw [← hR]
  obtain ⟨Q, hQ⟩ : ∃ Q, Q = RetL W N M gv R w := ⟨_, rfl⟩
  rw [← hQ]
  have HQ := Lib.hid hQ
  have HV1 := Lib.hid (VB.start (sg := true) h ha hb)
  have hmf := mf_run
  obtain ⟨n, hnn⟩ : ∃ n, a.length = n + 1 := ⟨a.length - 1, by omega⟩
  obtain ⟨x, hx⟩ : ∃ x, a[n]? = some x := ⟨_, List.getElem?_eq_getElem (by omega)⟩
  obtain ⟨y, hy⟩ : ∃ y, b[n]? = some y := ⟨_, List.getElem?_eq_getElem (by omega)⟩
  obtain ⟨pa, ca, rfl, hna, hma, -⟩ := id ha.1
  obtain ⟨pb, cb, rfl, hnb, hmb, -⟩ := id hb.1
  obtain ⟨b0, o0, rfl, hcx, hbx, hnx⟩ := ha.get hx
  obtain ⟨b1, o1, rfl, hcy, hby, hny⟩ := hb.get hy
  have hwx := hwa x (List.mem_of_getElem? hx)
  have hwy := hwb y (List.mem_of_getElem? hy)
  obtain ⟨t, ht⟩ : ∃ t, t = lessF s (a.take n ++ [y]) (b.take n ++ [x]) := ⟨_, rfl⟩
  have HR : Hid (R = (t.1, [t.2.2])) := Lib.hid (by
    rw [hR, ht]
    unfold geF
    have e1 : a.length - 1 = n := by omega
    have ga : a.getD n 0 = x := by rw [List.getD_eq_getElem?_getD, hx]; rfl
    have gb : b.getD n 0 = y := by rw [List.getD_eq_getElem?_getD, hy]; rfl
    simp only [e1, if_true]
    rw [ga, gb])
  have HS : Hid (∀ gv1 w1 v u, GB W N M gv1 s w1 → WL (Bs N M gv1) w1 v (a.take n ++ [y]) → WL (Bs N M gv1) w1 u (b.take n ++ [x]) → Calls Tryz.prog 84 #[.pointer (some ⟨N, 0, none⟩), v, u] w1 (RetS W N M gv1 t w1)) := Lib.hid (fun gv1 w1 v u h1 h2 h3 => by
    rw [ht]; exact less_any W w1 N M gv1 v u s _ _ h1 h2 h3 ((hwa.take _).append (WsB.one hwy)) ((hwb.take _).append (WsB.one hwx)) (by simp; omega) (by simp; omega))
  have HCC : Hid (∀ {g1 : Value} {w1 : World}, Stp N M gv g1 w w1 → w1.cell? ⟨b0, o0 + n, none⟩ = some (.int .i64 (x : Int)) ∧ w1.cell? ⟨b1, o1 + n, none⟩ = some (.int .i64 (y : Int))) := Lib.hid (fun h1 => ⟨h1.kb.cell hnx hcx, h1.kb.cell hny hcy⟩)
  have HLN : Hid ((a.take n).length = n ∧ (b.take n).length = n ∧ a.length = n + 1 ∧ b.length = n + 1) := Lib.hid ⟨by simp; omega, by simp; omega, hnn, by omega⟩
  rw [hnn] at hn hna HV1 ⊢
  have hl2 : b.length = n + 1 := by omega
  rw [hl2] at hnb HV1 ⊢
  have hcI : (ca : Int) ≤ 9223372036854775807 := by unfold maxLen at hma; omega
  have hcJ : (cb : Int) ≤ 9223372036854775807 := by unfold maxLen at hmb; omega
  have hbl0 : b0 < w.heap.size := hbx
  have hbl1 : b1 < w.heap.size := hby
  have e1 : ((n + 1 : Nat) : Int) - 1 = (n : Int) := by omega
  have hmc : n < ca := by omega
  have hmd : n < cb := by omega
  have hz0 : (0 : Int) ≤ (n : Int) := by omega
  have hz1 : (n : Int) < ((n + 1 : Nat) : Int) := by omega
  have hz2 : (n : Int) < (n : Int) + 1 := by omega
  have hz3 : (n : Int) ≤ (ca : Int) := by omega
  have hz4 : (n : Int) ≤ (cb : Int) := by omega
  clear hx hy hwx hwy ht hcx hcy hnx hny hbx hby hma hmb hl2 h0 hnn
  obtain ⟨X, hX⟩ : ∃ X, X = w.heap.size := ⟨_, rfl⟩
  rw [← hX] at HV1
  clear hQ h ha hb hwa hwb hR hl
  go_enter Tryz.func63, Tryz.ntmps63
  go_upto_region 1 with fail
  rw [← hX]
  clear hX
  generalize w.alloc (.cells #[.pointer (some ⟨N, 0, none⟩), (.slice (some ⟨b0, o0, none⟩) (n + 1) ca), (.slice (some ⟨b1, o1, none⟩) (n + 1) cb), .bool true] 71) = w1 at HV1 ⊢
  obtain ⟨p0, p1, p2, p3⟩ := HV1.out.bx
  have hlX := HV1.out.xl
  go_region
  have HV2 := Lib.hid (HV1.out.next (Ext.refl w1).drew)
  generalize w1.drew = w2 at HV2 ⊢
  clear p0 p1 p2 p3 hlX HV1
  obtain ⟨p0, p1, p2, p3⟩ := HV2.out.bx
  have hlX := HV2.out.xl
  have hc2 := HCC.out HV2.out.st
  have hbl2 : b0 < w2.heap.size := Nat.lt_of_lt_of_le hbl0 HV2.out.st.kb.size
  have hbl3 : b1 < w2.heap.size := Nat.lt_of_lt_of_le hbl1 HV2.out.st.kb.size
  go_upto_region 4 with fail
  have hLA : ∀ (g1 : Value) (s1 : BSt) (w1 : World), VB W N M gv w X (.slice (some ⟨b0, o0, none⟩) (n + 1) ca) (.slice (some ⟨b1, o1, none⟩) (n + 1) cb) true a b g1 s1 w1 → SlC w1 (.slice (some ⟨b0, o0, none⟩) n n) n (wvs (a.take n)) ∧ SlC w1 (.slice (some ⟨b1, o1, none⟩) n n) n (wvs (b.take n)) := fun g1 s1 w1 h1 => by
    have h2 := h1.la.1
    have h3 := h1.lb.1
    rw [HLN.out.2.2.1] at h2
    rw [HLN.out.2.2.2] at h3
    rw [← wvs_take, ← wvs_take]
    exact ⟨h2.cut n n (Nat.le_refl _) (by omega), h3.cut n n (Nat.le_refl _) (by omega)⟩
  have HLA := Lib.hid hLA
  clear hLA
  have hln1 : (wvs (a.take n)).length = n := by rw [wvs_len]; exact HLN.out.1
  have hln2 : (wvs (b.take n)).length = n := by rw [wvs_len]; exact HLN.out.2.1
  have hoc1 : ∀ u ∈ [Value.int .i64 (y : Int)], u.oneCell' = true := by simp [Value.oneCell']
  have hoc2 : ∀ u ∈ [Value.int .i64 (x : Int)], u.oneCell' = true := by simp [Value.oneCell']
  have hle1 : n + 1 ≤ 1000000 := by omega
  have hLn := Lib.hid (And.intro hln1 (And.intro hln2 (And.intro hoc1 (And.intro hoc2 hle1))))
  clear hln1 hln2 hoc1 hoc2
  have hk1 : n + 1 = (a.take n ++ [y]).length := by simp; have := HLN.out; omega
  have hk2 : n + 1 = (b.take n ++ [x]).length := by simp; have := HLN.out; omega
  have HK := Lib.hid (And.intro hk1 hk2)
  clear hk1 hk2
  go_region_held3 (fun w' => w'.cell? ⟨b0, o0 + n, none⟩ = some (.int .i64 (x : Int)) ∧ w'.cell? ⟨b1, o1 + n, none⟩ = some (.int .i64 (y : Int)))
    (first | exact hc2 | exact HCC.out (HVe0.out.next (by repeat first | exact Ext.refl _ | assumption | refine Ext.drew ?_ | refine Ext.drewN ?_ _ | refine Ext.extBy ?_ _ | refine Ext.alloc ?_ _ | refine Ext.setCell ?_ (by simp; try omega) _ | (refine Ext.trans ?_ (by assumption)))).st | exact HCC.out (HVb.out.next (by repeat first | exact Ext.refl _ | assumption | refine Ext.drew ?_ | refine Ext.drewN ?_ _ | refine Ext.extBy ?_ _ | refine Ext.alloc ?_ _ | refine Ext.setCell ?_ (by simp; try omega) _ | (refine Ext.trans ?_ (by assumption)))).st | exact HCC.out (HV2.out.next (by repeat first | exact Ext.refl _ | assumption | refine Ext.drew ?_ | refine Ext.drewN ?_ _ | refine Ext.extBy ?_ _ | refine Ext.alloc ?_ _ | refine Ext.setCell ?_ (by simp; try omega) _ | (refine Ext.trans ?_ (by assumption)))).st)
    (first | (refine step_append_full rfl (.tmp 20) (.tmp 25) rfl _ n (wvs (a.take n)) rfl (HLA.out _ _ _ (HV2.out.next (by repeat first | exact Ext.refl _ | assumption | refine Ext.drew ?_ | refine Ext.drewN ?_ _ | refine Ext.extBy ?_ _ | refine Ext.alloc ?_ _ | refine Ext.setCell ?_ (by simp; try omega) _ | (refine Ext.trans ?_ (by assumption))))).1 hLn.out.1 _ 1 [.int .i64 (y : Int)] rfl (by first | exact SlC.fresh _ #[.int .i64 (y : Int)] _ 1 _ (by simp) (by decide) | exact fresh_drew _ #[.int .i64 (y : Int)] _ 1 _ (by simp) (by decide) | exact (SlC.fresh w2 #[.int .i64 (y : Int)] 3 1 _ rfl (by decide)).ext (by repeat first | exact Ext.refl _ | assumption | refine Ext.drew ?_ | refine Ext.drewN ?_ _ | refine Ext.extBy ?_ _ | refine Ext.alloc ?_ _ | refine Ext.setCell ?_ (by simp; try omega) _ | (refine Ext.trans ?_ (by assumption))) | exact (SlC.fresh (w2.alloc (.cells #[.int .i64 (y : Int)] 3)) #[.int .i64 (y : Int)] 3 1 _ (by simp) (by decide)).ext (by repeat first | exact Ext.refl _ | assumption | refine Ext.drew ?_ | refine Ext.drewN ?_ _ | refine Ext.extBy ?_ _ | refine Ext.alloc ?_ _ | refine Ext.setCell ?_ (by simp; try omega) _ | (refine Ext.trans ?_ (by assumption))) | exact (SlC.fresh (w2.alloc (.cells #[.int .i64 (y : Int)] 3)).drew #[.int .i64 (y : Int)] 3 1 _ (by simp) (by decide)).ext (by repeat first | exact Ext.refl _ | assumption | refine Ext.drew ?_ | refine Ext.drewN ?_ _ | refine Ext.extBy ?_ _ | refine Ext.alloc ?_ _ | refine Ext.setCell ?_ (by simp; try omega) _ | (refine Ext.trans ?_ (by assumption)))) rfl hLn.out.2.2.1 (Nat.lt_succ_self 0) hLn.out.2.2.2.2 ?_; intro v1 w3 hown1 hg1; obtain ⟨x1, y1, z1, rfl⟩ := own_slice3 hown1; have hE3 := ext_grown_nil hg1; have hE4 : Ext w2 w3 := Ext.trans (by repeat first | exact Ext.refl _ | assumption | refine Ext.drew ?_ | refine Ext.drewN ?_ _ | refine Ext.extBy ?_ _ | refine Ext.alloc ?_ _ | refine Ext.setCell ?_ (by simp; try omega) _ | (refine Ext.trans ?_ (by assumption))) hE3; have HVb := Lib.hid (HV2.out.next hE4); have HO1 := Lib.hid (WL.app (N := N) (M := M) (gv := gv) HK.out.1 hown1 (fun b hb => Nat.lt_of_lt_of_le (HV2.out.gb.lts b hb) (Ext.size (by repeat first | exact Ext.refl _ | assumption | refine Ext.drew ?_ | refine Ext.drewN ?_ _ | refine Ext.extBy ?_ _ | refine Ext.alloc ?_ _ | refine Ext.setCell ?_ (by simp; try omega) _ | (refine Ext.trans ?_ (by assumption)))))); clear hown1 hg1) | (refine step_append_full rfl (.tmp 30) (.tmp 35) rfl _ n (wvs (b.take n)) rfl (HLA.out _ _ _ (HVb.out.next (by repeat first | exact Ext.refl _ | assumption | refine Ext.drew ?_ | refine Ext.drewN ?_ _ | refine Ext.extBy ?_ _ | refine Ext.alloc ?_ _ | refine Ext.setCell ?_ (by simp; try omega) _ | (refine Ext.trans ?_ (by assumption))))).2 hLn.out.2.1 _ 1 [.int .i64 (x : Int)] rfl (by first | exact SlC.fresh _ #[.int .i64 (x : Int)] _ 1 _ (by simp) (by decide) | exact fresh_drew _ #[.int .i64 (x : Int)] _ 1 _ (by simp) (by decide) | exact (SlC.fresh w2 #[.int .i64 (x : Int)] 3 1 _ rfl (by decide)).ext (by first | exact Ext.trans (by repeat first | exact Ext.refl _ | refine Ext.drew ?_ | refine Ext.alloc ?_ _) hE3 | exact (Ext.trans (by repeat first | exact Ext.refl _ | refine Ext.drew ?_ | refine Ext.alloc ?_ _) hE3).drew) | exact (SlC.fresh (w2.alloc (.cells #[.int .i64 (y : Int)] 3)) #[.int .i64 (x : Int)] 3 1 _ (by simp) (by decide)).ext (by first | exact Ext.trans (by repeat first | exact Ext.refl _ | refine Ext.drew ?_ | refine Ext.alloc ?_ _) hE3 | exact (Ext.trans (by repeat first | exact Ext.refl _ | refine Ext.drew ?_ | refine Ext.alloc ?_ _) hE3).drew) | exact (SlC.fresh (w2.alloc (.cells #[.int .i64 (y : Int)] 3)).drew #[.int .i64 (x : Int)] 3 1 _ (by simp) (by decide)).ext (by first | exact Ext.trans (by repeat first | exact Ext.refl _ | refine Ext.drew ?_ | refine Ext.alloc ?_ _) hE3 | exact (Ext.trans (by repeat first | exact Ext.refl _ | refine Ext.drew ?_ | refine Ext.alloc ?_ _) hE3).drew)) rfl hLn.out.2.2.2.1 (Nat.lt_succ_self 0) hLn.out.2.2.2.2 ?_; intro v2 w4 hown2 hg2; obtain ⟨x2, y2, z2, rfl⟩ := own_slice3 hown2; have hE5 : Ext w3 w4 := Ext.trans (by repeat first | exact Ext.refl _ | assumption | refine Ext.drew ?_ | refine Ext.drewN ?_ _ | refine Ext.extBy ?_ _ | refine Ext.alloc ?_ _ | refine Ext.setCell ?_ (by simp; try omega) _ | (refine Ext.trans ?_ (by assumption))) (ext_grown_nil hg2); have HVe0 := Lib.hid (HVb.out.next hE5); have HO2 := Lib.hid (WL.app (N := N) (M := M) (gv := gv) HK.out.2 hown2 (fun b hb => Nat.lt_of_lt_of_le (HVb.out.gb.lts b hb) (Ext.size (by repeat first | exact Ext.refl _ | assumption | refine Ext.drew ?_ | refine Ext.drewN ?_ _ | refine Ext.extBy ?_ _ | refine Ext.alloc ?_ _ | refine Ext.setCell ?_ (by simp; try omega) _ | (refine Ext.trans ?_ (by assumption)))))); have HO3 := Lib.hid (HO1.out.ext hE5); clear hown2 hg2))
  all_goals
    obtain ⟨p0, p1, p2, p3⟩ := HVe0.out.bx
    have hlX := HVe0.out.xl
    go_wp2_with (go_at_call 84; refine (HS.out gv _ _ _ HVe0.out.gb HO3.out HO2.out).mono ?_; rintro e w5 ⟨q3, c3, gv3, rfl, H3⟩; have HV3 := Lib.hid (HVe0.out.call H3.out.1 H3.out.2.1))
    rw [HQ.out, HR.out]
    exact RetL.cy (by first | rfl | simp) HV3.out.gb HV3.out.st
theorem vge_any (W w : World) (N M : Nat) (gv va vb : Value) (sg : Bool) (s : BSt) (a b : List Nat) (h : GB W N M gv s w) (ha : WL (Bs N M gv) w va a) (hb : WL (Bs N M gv) w vb b) (hwa : WsB a) (hwb : WsB b) (hn : a.length ≤ 10000) (hl : b.length = a.length) (h0 : 0 < a.length) :
    Calls Tryz.prog 63 #[.agg #[.pointer (some ⟨N, 0, none⟩), va, vb, .bool sg]] w (RetL W N M gv (geF sg s a b) w) := by
  cases sg
  · exact vgeU_any W w N M gv va vb s a b h ha hb hwa hwb hn hl
  · exact vgeS_any W w N M gv va vb s a b h ha hb hwa hwb hn hl h0
set_option maxHeartbeats 8000000 in
theorem vlt_any (W w : World) (N M : Nat) (gv va vb : Value) (sg : Bool) (s : BSt) (a b : List Nat) (h : GB W N M gv s w) (ha : WL (Bs N M gv) w va a) (hb : WL (Bs N M gv) w vb b) (hwa : WsB a) (hwb : WsB b) (hn : a.length ≤ 10000) (hl : b.length = a.length) (h0 : 0 < a.length) :
    Calls Tryz.prog 60 #[.agg #[.pointer (some ⟨N, 0, none⟩), va, vb, .bool sg]] w (RetL W N M gv (ltF sg s a b) w) := by
  obtain ⟨R, hR⟩ : ∃ R, R = ltF sg s a b := ⟨_, rfl⟩
  rw [← hR]
  obtain ⟨Q, hQ⟩ : ∃ Q, Q = RetL W N M gv R w := ⟨_, rfl⟩
  rw [← hQ]
  have HQ := Lib.hid hQ
  have HV1 := Lib.hid (VB.start (sg := sg) h ha hb)
  have hmf := mf_run
  obtain ⟨x, hx⟩ : ∃ x, x = geF sg s a b := ⟨_, rfl⟩
  have wx : WsB x.2 ∧ x.2.length ≤ 100000 := by rw [hx]; exact geF_wf h.wf hwa hwb
  have HR : Hid (R = (x.1, x.2.map flip)) := Lib.hid (by rw [hR, hx]; rfl)
  have HX : Hid (∀ gv1 w1, GB W N M gv1 s w1 → WL (Bs N M gv1) w1 va a → WL (Bs N M gv1) w1 vb b → Calls Tryz.prog 63 #[.agg #[.pointer (some ⟨N, 0, none⟩), va, vb, .bool sg]] w1 (RetL W N M gv1 x w1)) := Lib.hid (fun gv1 w1 h1 h2 h3 => by rw [hx]; exact vge_any W w1 N M gv1 va vb sg s a b h1 h2 h3 hwa hwb hn hl h0)
  have HN : Hid (∀ w1 v, SlC w1 v x.2.length (wvs x.2) → Calls Tryz.prog 80 #[v] w1 fun e w' => ∃ p c, e = .returned (.slice p x.2.length c) ∧ Hid (RowF w1 w' (.slice p x.2.length c) (x.2.map flip))) := Lib.hid (fun w1 v h1 => not_any x.2 v w1 h1 wx.1 wx.2)
  clear hx wx
  obtain ⟨X, hX⟩ : ∃ X, X = w.heap.size := ⟨_, rfl⟩
  rw [← hX] at HV1
  clear hQ h ha hb hwa hwb hR hl h0
  go_enter Tryz.func60, Tryz.ntmps60
  go_upto_region 1 with fail
  rw [← hX]
  clear hX
  generalize w.alloc (.cells #[.pointer (some ⟨N, 0, none⟩), va, vb, .bool sg] 71) = w1 at HV1 ⊢
  obtain ⟨p0, p1, p2, p3⟩ := HV1.out.bx
  have hlX := HV1.out.xl
  go_wp2_with (first | (go_at_call 63; refine (HX.out gv _ HV1.out.gb HV1.out.la HV1.out.lb).mono ?_; rintro e w2 ⟨q2, c2, gv2, rfl, H2⟩; have HV2 := Lib.hid (HV1.out.call H2.out.1 H2.out.2.1)) | (go_at_call 80; refine (HN.out _ _ H2.out.2.2.1).mono ?_; rintro e w3 ⟨q3, c3, rfl, H3⟩))
  rw [HQ.out, HR.out]
  have e : ((x.1, x.2.map flip) : BL).2.length = x.2.length := by simp
  refine ⟨q3, c3, gv2, by rw [e]; rfl, Lib.hid ⟨HV2.out.gb.next H3.out.ext, HV2.out.st.trans (Stp.of_ext H3.out.ext), ?_⟩⟩
  rw [e]
  exact H3.out.wl HV2.out.gb.lts
theorem ltF_wf {sg : Bool} {s : BSt} {a b : List Nat} (h : BWf s) (ha : WsB a) (hb : WsB b) : WsB (ltF sg s a b).2 ∧ (ltF sg s a b).2.length ≤ 100000 := by
  have := geF_wf (sg := sg) h ha hb
  exact ⟨this.1.map, by simp [ltF, notL]; exact this.2⟩
set_option maxHeartbeats 8000000 in
theorem vgt_any (W w : World) (N M : Nat) (gv va vb : Value) (sg : Bool) (s : BSt) (a b : List Nat) (h : GB W N M gv s w) (ha : WL (Bs N M gv) w va a) (hb : WL (Bs N M gv) w vb b) (hwa : WsB a) (hwb : WsB b) (hn : a.length ≤ 10000) (hl : b.length = a.length) (h0 : 0 < a.length) :
    Calls Tryz.prog 62 #[.agg #[.pointer (some ⟨N, 0, none⟩), va, vb, .bool sg]] w (RetL W N M gv (gtF sg s a b) w) := by
  obtain ⟨R, hR⟩ : ∃ R, R = gtF sg s a b := ⟨_, rfl⟩
  rw [← hR]
  obtain ⟨Q, hQ⟩ : ∃ Q, Q = RetL W N M gv R w := ⟨_, rfl⟩
  rw [← hQ]
  have HQ := Lib.hid hQ
  have HV1 := Lib.hid (VB.start (sg := sg) h ha hb)
  have hmf := mf_run
  obtain ⟨pa, ca, rfl, -, -, -⟩ := id ha.1
  obtain ⟨pb, cb, rfl, -, -, -⟩ := id hb.1
  have HX : Hid (∀ gv1 w1, GB W N M gv1 s w1 → WL (Bs N M gv1) w1 (.slice pa a.length ca) a → WL (Bs N M gv1) w1 (.slice pb b.length cb) b → Calls Tryz.prog 60 #[.agg #[.pointer (some ⟨N, 0, none⟩), .slice pb b.length cb, .slice pa a.length ca, .bool sg]] w1 (RetL W N M gv1 R w1)) := Lib.hid (fun gv1 w1 h1 h2 h3 => by rw [hR]; exact vlt_any W w1 N M gv1 _ _ sg s b a h1 h3 h2 hwb hwa (by omega) hl.symm (by omega))
  obtain ⟨X, hX⟩ : ∃ X, X = w.heap.size := ⟨_, rfl⟩
  rw [← hX] at HV1
  clear hQ h ha hb hwa hwb hR hl h0
  go_enter Tryz.func62, Tryz.ntmps62
  go_upto_region 1 with fail
  rw [← hX]
  clear hX
  generalize w.alloc (.cells #[.pointer (some ⟨N, 0, none⟩), (.slice pa a.length ca), (.slice pb b.length cb), .bool sg] 71) = w1 at HV1 ⊢
  obtain ⟨p0, p1, p2, p3⟩ := HV1.out.bx
  have hlX := HV1.out.xl
  go_wp2_with (go_at_call 60; refine (HX.out gv _ HV1.out.gb HV1.out.la HV1.out.lb).mono ?_; rintro e w2 ⟨q2, c2, gv2, rfl, H2⟩; have HV2 := Lib.hid (HV1.out.call H2.out.1 H2.out.2.1))
  rw [HQ.out]
  exact ⟨q2, c2, gv2, rfl, Lib.hid ⟨HV2.out.gb, HV2.out.st, H2.out.2.2⟩⟩
set_option maxHeartbeats 8000000 in
theorem vle_any (W w : World) (N M : Nat) (gv va vb : Value) (sg : Bool) (s : BSt) (a b : List Nat) (h : GB W N M gv s w) (ha : WL (Bs N M gv) w va a) (hb : WL (Bs N M gv) w vb b) (hwa : WsB a) (hwb : WsB b) (hn : a.length ≤ 10000) (hl : b.length = a.length) (h0 : 0 < a.length) :
    Calls Tryz.prog 61 #[.agg #[.pointer (some ⟨N, 0, none⟩), va, vb, .bool sg]] w (RetL W N M gv (leF sg s a b) w) := by
  obtain ⟨R, hR⟩ : ∃ R, R = leF sg s a b := ⟨_, rfl⟩
  rw [← hR]
  obtain ⟨Q, hQ⟩ : ∃ Q, Q = RetL W N M gv R w := ⟨_, rfl⟩
  rw [← hQ]
  have HQ := Lib.hid hQ
  have HV1 := Lib.hid (VB.start (sg := sg) h ha hb)
  have hmf := mf_run
  obtain ⟨x, hx⟩ : ∃ x, x = gtF sg s a b := ⟨_, rfl⟩
  have wx : WsB x.2 ∧ x.2.length ≤ 100000 := by rw [hx]; exact ltF_wf h.wf hwb hwa
  have HR : Hid (R = (x.1, x.2.map flip)) := Lib.hid (by rw [hR, hx]; rfl)
  have HX : Hid (∀ gv1 w1, GB W N M gv1 s w1 → WL (Bs N M gv1) w1 va a → WL (Bs N M gv1) w1 vb b → Calls Tryz.prog 62 #[.agg #[.pointer (some ⟨N, 0, none⟩), va, vb, .bool sg]] w1 (RetL W N M gv1 x w1)) := Lib.hid (fun gv1 w1 h1 h2 h3 => by rw [hx]; exact vgt_any W w1 N M gv1 va vb sg s a b h1 h2 h3 hwa hwb hn hl h0)
  have HN : Hid (∀ w1 v, SlC w1 v x.2.length (wvs x.2) → Calls Tryz.prog 80 #[v] w1 fun e w' => ∃ p c, e = .returned (.slice p x.2.length c) ∧ Hid (RowF w1 w' (.slice p x.2.length c) (x.2.map flip))) := Lib.hid (fun w1 v h1 => not_any x.2 v w1 h1 wx.1 wx.2)
  clear hx wx
  obtain ⟨X, hX⟩ : ∃ X, X = w.heap.size := ⟨_, rfl⟩
  rw [← hX] at HV1
  clear hQ h ha hb hwa hwb hR hl h0
  go_enter Tryz.func61, Tryz.ntmps61
  go_upto_region 1 with fail
  rw [← hX]
  clear hX
  generalize w.alloc (.cells #[.pointer (some ⟨N, 0, none⟩), va, vb, .bool sg] 71) = w1 at HV1 ⊢
  obtain ⟨p0, p1, p2, p3⟩ := HV1.out.bx
  have hlX := HV1.out.xl
  go_wp2_with (first | (go_at_call 62; refine (HX.out gv _ HV1.out.gb HV1.out.la HV1.out.lb).mono ?_; rintro e w2 ⟨q2, c2, gv2, rfl, H2⟩; have HV2 := Lib.hid (HV1.out.call H2.out.1 H2.out.2.1)) | (go_at_call 80; refine (HN.out _ _ H2.out.2.2.1).mono ?_; rintro e w3 ⟨q3, c3, rfl, H3⟩))
  rw [HQ.out, HR.out]
  have e : ((x.1, x.2.map flip) : BL).2.length = x.2.length := by simp
  refine ⟨q3, c3, gv2, by rw [e]; rfl, Lib.hid ⟨HV2.out.gb.next H3.out.ext, HV2.out.st.trans (Stp.of_ext H3.out.ext), ?_⟩⟩
  rw [e]
  exact H3.out.wl HV2.out.gb.lts
end Go.Proofs.YtdjnekcpeaadhaaGreat

/-
  The maker's walks: a list of wires that grows beside the maker.
  Condition: the maker and the lists lie in memory.
  The maker's walks: sums.
  Condition: the maker and the lists lie in memory.
  The maker's walks: differences, opposites, any, inputs.
  Condition: the maker and the lists lie in memory.
-/
import Derived.Test.YtdjnekcpeaadhaaGreatJtD
namespace Go.Proofs.YtdjnekcpeaadhaaGreat
open Go.RowKit Go.Maps
set_option linter.unusedSimpArgs false
set_option linter.unusedVariables false
set_option maxRecDepth 100000

section
variable {W w0 w w' w2 : World} {N M : Nat} {gv0 gv gv' v v2 : Value} {s s' : BSt} {l : List Nat}
theorem GB.kb {S : List Nat} (h : GB W N M gv s w) (hk : Kb S w w') (hS : ∀ k ∈ S, k ∉ Bs N M gv ∧ W.heap.size ≤ k) : GB W N M gv s w' := by
  have hN : N ∉ S := fun e => (hS N e).1 (by simp [Bs])
  have hM : M ∉ S := fun e => (hS M e).1 (by simp [Bs])
  exact { ext := hk.ext h.ext (fun k hk => (hS k hk).2), box := h.box.kb hk hN, row := hk.row h.row (fun b hb e => (hS b hb).1 (List.mem_append_left _ (Option.mem_toList.2 e))), map := let ⟨D, k, h1, h2, h3⟩ := h.map; ⟨D, k, h1, ownsMap_ext h2 (hk.block M h.mlt hM), h3⟩, ns := h.ns, nm := h.nm, gn := h.gn, wf := h.wf }
/-- The maker, and a list of the walk's own. -/
structure EB (W : World) (N M : Nat) (gv0 : Value) (w0 : World) (gv : Value) (s : BSt) (v : Value) (l : List Nat) (w : World) : Prop where
  gb : GB W N M gv s w
  st : Stp N M gv0 gv w0 w
  own : w.ownsRow w0.heap.size 3 1 v l.length (wvs l)
  off : ∀ b ∈ Bs N M gv, v.ownBlock ≠ some b
  le : W.heap.size ≤ w0.heap.size
theorem EB.start (h : GB W N M gv s w) : EB W N M gv w gv s (.slice none 0 0) [] w :=
  ⟨h, Stp.refl _ _ _ _, own_nil _ _ _ _, fun b _ e => by simp [Value.ownBlock] at e, h.ext.size⟩
theorem EB.next (h : EB W N M gv0 w0 gv s v l w) (hx : Ext w w') : EB W N M gv0 w0 gv s v l w' :=
  ⟨h.gb.next hx, h.st.trans (Stp.of_ext hx), ownsRow_ext h.own hx, h.off, h.le⟩
theorem EB.call (h : EB W N M gv0 w0 gv s v l w) (hB : GB W N M gv' s' w') (hS : Stp N M gv gv' w w') : EB W N M gv0 w0 gv' s' v l w' :=
  ⟨hB, h.st.trans hS, hS.kb.row h.own h.off, fun b hb e => (hS.bs b hb).elim (fun e2 => h.off b e2 e) (fun e2 => absurd (h.own.lt b e).2 (Nat.not_lt.2 e2)), h.le⟩
theorem EB.app {x : Nat} (h : EB W N M gv0 w0 gv s v l w) (hg : w.grownBy w2 v.ownBlock) (hown : w2.ownsRow w0.heap.size 3 1 v2 (l.length + 1) (wvs l ++ [.int .i64 (x : Int)])) (hat : v2.ownBlock = v.ownBlock ∨ v2.ownBlock = some w.heap.size) : EB W N M gv0 w0 gv s v2 (l ++ [x]) w2 := by
  have hk : Kb v.ownBlock.toList w w2 := Kb.grown hg (fun g hg => Option.mem_toList.2 hg)
  have hS : ∀ k ∈ v.ownBlock.toList, k ∉ Bs N M gv ∧ w0.heap.size ≤ k := fun k hk => ⟨fun e => h.off k e (Option.mem_toList.1 hk), (h.own.lt k (Option.mem_toList.1 hk)).1⟩
  refine ⟨h.gb.kb hk (fun k hk => ⟨(hS k hk).1, Nat.le_trans h.le (hS k hk).2⟩), ⟨h.st.kb.trans_new hk (fun i hi => .inr (hS i hi).2), h.st.bs⟩, ?_, fun b hb e => ?_, h.le⟩
  · rw [wvs_snoc, List.length_append, List.length_singleton]; exact hown
  · rcases hat with e2 | e2
    · exact h.off b hb (by rw [← e2]; exact e)
    · rw [e2] at e
      simp at e
      have := h.gb.lts b hb
      omega
theorem EB.done (h : EB W N M gv0 w0 gv s v l w) : WL (Bs N M gv) w v l := ⟨SlC.of_owns h.own, fun _ => h.off⟩
/-- A cell of another list, before and behind an append to the walk's own. -/
theorem EB.cell {b o : Nat} {u : Value} (h : EB W N M gv0 w0 gv s v l w) (hg : w.grownBy w2 v.ownBlock) (hb : b < w0.heap.size) (hc : w.cell? ⟨b, o, none⟩ = some u) : w2.cell? ⟨b, o, none⟩ = some u := by
  have hk : Kb v.ownBlock.toList w w2 := Kb.grown hg (fun g hg => Option.mem_toList.2 hg)
  exact hk.cell (fun e => by have := (h.own.lt b (Option.mem_toList.1 e)).1; omega) hc
end
/-- What a function that makes a list of wires tells. -/
def RetL (W : World) (N M : Nat) (gv : Value) (r : BL) (w : World) (e : Ending) (w' : World) : Prop :=
  ∃ a c gv', e = .returned (.slice a r.2.length c) ∧ Hid (GB W N M gv' r.1 w' ∧ Stp N M gv gv' w w' ∧ WL (Bs N M gv') w' (.slice a r.2.length c) r.2)
/-- .. and that the list is a new row of its own. -/
def RetO (W : World) (N M : Nat) (gv : Value) (r : BL) (w : World) (e : Ending) (w' : World) : Prop :=
  ∃ a c gv', e = .returned (.slice a r.2.length c) ∧ Hid (GB W N M gv' r.1 w' ∧ Stp N M gv gv' w w' ∧ WL (Bs N M gv') w' (.slice a r.2.length c) r.2 ∧ w'.ownsRow w.heap.size 3 1 (.slice a r.2.length c) r.2.length (wvs r.2))
theorem RetO.l {W : World} {N M : Nat} {gv : Value} {r : BL} {w : World} {e : Ending} {w' : World} (h : RetO W N M gv r w e w') : RetL W N M gv r w e w' :=
  let ⟨a, c, gv', h1, h2⟩ := h; ⟨a, c, gv', h1, Lib.hid ⟨h2.out.1, h2.out.2.1, h2.out.2.2.1⟩⟩
theorem own_base {w : World} {B B' : Nat} {e : TypeId} {k n : Nat} {v : Value} {xs : List Value} (h : w.ownsRow B e k v n xs) (hb : B' ≤ B) : w.ownsRow B' e k v n xs := by
  refine ⟨h.1, h.2.imp id ?_⟩
  rintro ⟨g, cap, cur, h1, h2, h3⟩
  exact ⟨g, cap, cur, h1, Nat.le_trans hb h2, h3⟩
theorem eachF_step {f : BSt → Nat → Nat → BR} {s : BSt} {a b : List Nat} {k x y : Nat} (hx : a[k]? = some x) (hy : b[k]? = some y) : eachF f s (a.drop k) (b.drop k) = ((eachF f (f s x y).1 (a.drop (k + 1)) (b.drop (k + 1))).1, (f s x y).2 :: (eachF f (f s x y).1 (a.drop (k + 1)) (b.drop (k + 1))).2) := by
  obtain ⟨h1, rfl⟩ := List.getElem?_eq_some_iff.1 hx
  obtain ⟨h2, rfl⟩ := List.getElem?_eq_some_iff.1 hy
  rw [List.drop_eq_getElem_cons h1, List.drop_eq_getElem_cons h2]
  rfl
/-- A wire's cell, and that its block is an old one. -/
theorem WL.get {bs : List Nat} {w : World} {p : Option Addr} {n c : Nat} {l : List Nat} {k x : Nat} (h : WL bs w (.slice p n c) l) (hx : l[k]? = some x) : ∃ b o, p = some ⟨b, o, none⟩ ∧ w.cell? ⟨b, o + k, none⟩ = some (.int .i64 (x : Int)) ∧ b < w.heap.size ∧ b ∉ bs := by
  obtain ⟨a, cap, e, -, -, hc⟩ := h.1
  simp only [Value.slice.injEq] at e
  obtain ⟨b, o, e1, hcell⟩ := hc k _ (wvs_get hx)
  have hp : p = some ⟨b, o, none⟩ := e.1.trans e1
  refine ⟨b, o, hp, hcell, World.block_lt_of_cell? w _ hcell, fun hb => ?_⟩
  exact h.2 (by rintro rfl; simp at hx) b hb (by rw [hp]; rfl)
set_option maxHeartbeats 8000000 in
theorem eachAnd_own (W w : World) (N M : Nat) (gv va vb : Value) (s : BSt) (a b : List Nat) (h : GB W N M gv s w) (ha : WL (Bs N M gv) w va a) (hb : WL (Bs N M gv) w vb b) (hwa : WsB a) (hwb : WsB b) (hl : a.length ≤ b.length) (hn : a.length ≤ 100000) :
    Calls Tryz.prog 86 #[va, vb, .func (.func 87) #[.pointer (some ⟨N, 0, none⟩)] #[]] w (RetO W N M gv (eachF andF s a b) w) := by
  obtain ⟨R, hR⟩ : ∃ R, R = eachF andF s a b := ⟨_, rfl⟩
  have hRl : R.2.length = a.length := by rw [hR]; exact (eachF_wf okAnd a b h.wf hwa hwb).2.2
  rw [← hR]
  obtain ⟨Q, hQ⟩ : ∃ Q, Q = RetO W N M gv R w := ⟨_, rfl⟩
  rw [← hQ]
  have HQ := Lib.hid hQ
  obtain ⟨pa, ca, rfl, hna, hma, -⟩ := id ha.1
  obtain ⟨pb, cb, rfl, hnb, hmb, -⟩ := id hb.1
  obtain ⟨n, hnl⟩ : ∃ n, n = a.length := ⟨_, rfl⟩
  obtain ⟨m, hml⟩ : ∃ m, m = b.length := ⟨_, rfl⟩
  rw [← hnl] at hna hn
  rw [← hml] at hnb
  rw [← hnl, ← hml] at hl
  have HW := Lib.hid (And.intro h (And.intro ha (And.intro hb (And.intro hwa (And.intro hwb (And.intro hnl (And.intro hml (And.intro hR hRl))))))))
  have hcI : (ca : Int) ≤ 9223372036854775807 := by unfold maxLen at hma; omega
  have hcJ : (cb : Int) ≤ 9223372036854775807 := by unfold maxLen at hmb; omega
  rw [← hnl, ← hml]
  clear hQ h ha hb hwa hwb hnl hml hR hRl hma hmb
  go_enter Tryz.func86, Tryz.ntmps86
  go_wp2
  go_loopw [7, 11] (fun v i wr => ∃ (k c : Nat) (p : Option Addr) (gv' : Value) (s' : BSt) (l : List Nat), k ≤ n ∧ i = .int .i64 (k : Int) ∧ v = .slice p k c ∧ Hid (EB W N M gv w gv' s' (.slice p k c) l wr) ∧ Hid (l.length = k ∧ R.1 = (eachF andF s' (a.drop k) (b.drop k)).1 ∧ R.2 = l ++ (eachF andF s' (a.drop k) (b.drop k)).2)) (fun _ i _ => n - (intOf i).toNat)
  case atStart => exact ⟨0, 0, none, gv, s, [], Nat.zero_le _, rfl, rfl, Lib.hid (EB.start HW.out.1), Lib.hid ⟨rfl, by rw [HW.out.2.2.2.2.2.2.2.1]; rfl, by rw [HW.out.2.2.2.2.2.2.2.1]; rfl⟩⟩
  case round =>
    obtain ⟨k, c, p, gv', s', l, hk, rfl, rfl, H, HR⟩ := hrel
    by_cases hlt : k < n
    · have hki : (k : Int) < (n : Int) := Int.ofNat_lt.2 hlt
      obtain ⟨x, hx⟩ : ∃ x, a[k]? = some x := ⟨_, List.getElem?_eq_getElem (by have := HW.out.2.2.2.2.2.1; omega)⟩
      obtain ⟨y, hy⟩ : ∃ y, b[k]? = some y := ⟨_, List.getElem?_eq_getElem (by have := HW.out.2.2.2.2.2.2.1; omega)⟩
      obtain ⟨b0, o0, rfl, hcx, hbx, hnx⟩ := HW.out.2.1.get hx
      obtain ⟨b1, o1, rfl, hcy, hby, hny⟩ := HW.out.2.2.1.get hy
      have hwx := HW.out.2.2.2.1 x (List.mem_of_getElem? hx)
      have hwy := HW.out.2.2.2.2.1 y (List.mem_of_getElem? hy)
      obtain ⟨r, hr⟩ : ∃ r, r = andF s' x y := ⟨_, rfl⟩
      have HST : Hid (eachF andF s' (a.drop k) (b.drop k) = ((eachF andF r.1 (a.drop (k + 1)) (b.drop (k + 1))).1, r.2 :: (eachF andF r.1 (a.drop (k + 1)) (b.drop (k + 1))).2)) := Lib.hid (by rw [hr]; exact eachF_step hx hy)
      have hmc : k < ca := by omega
      have hmd : k < cb := by omega
      have hml : k < m := by omega
      have HCL : Hid (b0 < w.heap.size ∧ b0 ∉ Bs N M gv ∧ b1 < w.heap.size ∧ b1 ∉ Bs N M gv) := Lib.hid ⟨hbx, hnx, hby, hny⟩
      have hoff : b0 ∉ Bs N M gv' ∧ b1 ∉ Bs N M gv' := ⟨fun e => (H.out.st.bs b0 e).elim hnx (fun e2 => absurd hbx (Nat.not_lt.2 e2)), fun e => (H.out.st.bs b1 e).elim hny (fun e2 => absurd hby (Nat.not_lt.2 e2))⟩
      have HOF := Lib.hid hoff
      have hc2 : wr.cell? ⟨b0, o0 + k, none⟩ = some (.int .i64 (x : Int)) ∧ wr.cell? ⟨b1, o1 + k, none⟩ = some (.int .i64 (y : Int)) := ⟨H.out.st.kb.cell hnx hcx, H.out.st.kb.cell hny hcy⟩
      have hbl0 : b0 < wr.heap.size := Nat.lt_of_lt_of_le hbx H.out.st.kb.size
      have hbl1 : b1 < wr.heap.size := Nat.lt_of_lt_of_le hby H.out.st.kb.size
      have HF : Hid (∀ w', Ext wr w' → Calls Tryz.prog 87 #[.pointer (some ⟨N, 0, none⟩), .int .i64 (x : Int), .int .i64 (y : Int)] w' (RetW W N M gv' r w')) := Lib.hid (fun w' hx' => by rw [hr]; exact and_any W w' N M gv' s' x y (H.out.gb.next hx') hwx hwy)
      clear hx hy hr hcx hcy hwx hwy hnx hny hbx hby hoff
      go_upto_region 5 with fail
      go_region_held3 (fun w' => w'.cell? ⟨b0, o0 + k, none⟩ = some (.int .i64 (x : Int)) ∧ w'.cell? ⟨b1, o1 + k, none⟩ = some (.int .i64 (y : Int)))
        (first | exact hc2 | exact hq1 | exact hq2 | exact hq3)
        (first | (go_at_call 87; refine (HF.out _ (Ext.refl wr).drew).mono ?_; rintro e w1 ⟨rfl, gv1, hB1, hS1⟩; have hE1 := (H.out.next (Ext.refl wr).drew).call hB1 hS1; have HE1 := Lib.hid (And.intro hE1 (hE1.next ((Ext.refl w1).alloc (.cells #[.int .i64 (r.2 : Int)] 3)))); have hq1 : w1.cell? ⟨b0, o0 + k, none⟩ = some (.int .i64 (x : Int)) ∧ w1.cell? ⟨b1, o1 + k, none⟩ = some (.int .i64 (y : Int)) := ⟨hS1.kb.cell HOF.out.1 hc2.1, hS1.kb.cell HOF.out.2 hc2.2⟩; have hq2 : (w1.alloc (.cells #[.int .i64 (r.2 : Int)] 3)).cell? ⟨b0, o0 + k, none⟩ = some (.int .i64 (x : Int)) ∧ (w1.alloc (.cells #[.int .i64 (r.2 : Int)] 3)).cell? ⟨b1, o1 + k, none⟩ = some (.int .i64 (y : Int)) := ⟨((Ext.refl w1).alloc _).cell hq1.1, ((Ext.refl w1).alloc _).cell hq1.2⟩; clear hB1 hS1 hE1) | (refine step_append_slc _ rfl (.tmp 14) (.tmp 25) 29 rfl w.heap.size 3 (.int .i64 0) 1 8 Tryz.underlying29 infoInt rfl (by decide) (.slice p k c) k (wvs l) rfl (by have := HE1.out.2.own; rw [HR.out.1] at this; exact this) _ 1 [.int .i64 (r.2 : Int)] rfl (SlC.fresh _ #[.int .i64 (r.2 : Int)] _ 1 _ (by simp) (by decide)) rfl (by simp [Value.oneCell']) (by unfold maxLen; omega) (by omega) HE1.out.2.st.kb.size ?_; intro v9 w9 hown9 hg9 hat9; obtain ⟨x9, y9, z9, rfl⟩ := own_slice3 hown9; have HE9 := Lib.hid (HE1.out.2.app (x := r.2) hg9 (by rw [HR.out.1]; exact hown9) hat9); have hq3 : w9.cell? ⟨b0, o0 + k, none⟩ = some (.int .i64 (x : Int)) ∧ w9.cell? ⟨b1, o1 + k, none⟩ = some (.int .i64 (y : Int)) := ⟨HE1.out.2.cell hg9 HCL.out.1 hq2.1, HE1.out.2.cell hg9 HCL.out.2.2.1 hq2.2⟩; clear hown9 hg9 hat9))
      have hy : y9 = k + 1 := by
        obtain ⟨a', c', e, -⟩ := SlC.of_owns HE9.out.own
        simp at e
        have := HR.out.1
        omega
      subst hy
      go_wp2
      refine ⟨⟨k + 1, z9, x9, gv1, r.1, l ++ [r.2], by omega, by go_num, rfl, HE9, Lib.hid ⟨by have := HR.out.1; simp; omega, ?_, ?_⟩⟩, by simp [intOf]; omega⟩
      · have h1 := HR.out.2.1
        rw [HST.out] at h1
        exact h1
      · have h1 := HR.out.2.2
        rw [HST.out] at h1
        rw [h1]; simp
    · have hki : ¬ (k : Int) < (n : Int) := fun e => hlt (Int.ofNat_lt.1 e)
      obtain rfl : k = n := by omega
      go_wp2
      rw [HQ.out]
      have e1 := HW.out.2.2.2.2.2.1
      have hd : a.drop k = [] := List.drop_eq_nil_iff.2 (by omega)
      have hf := HR.out
      rw [hd] at hf
      have e2 : R.1 = s' := hf.2.1
      have e3 : R.2 = l := hf.2.2.trans (List.append_nil l)
      refine ⟨p, c, gv', ?_, Lib.hid ⟨by rw [e2]; exact H.out.gb, H.out.st, ?_, ?_⟩⟩
      · rw [e3, hf.1]
      · rw [e3, hf.1]; exact H.out.done
      · have h9 := H.out.own
        rw [hf.1] at h9
        rw [e3, hf.1]; exact h9
theorem eachAnd_any (W w : World) (N M : Nat) (gv va vb : Value) (s : BSt) (a b : List Nat) (h : GB W N M gv s w) (ha : WL (Bs N M gv) w va a) (hb : WL (Bs N M gv) w vb b) (hwa : WsB a) (hwb : WsB b) (hl : a.length ≤ b.length) (hn : a.length ≤ 100000) :
    Calls Tryz.prog 86 #[va, vb, .func (.func 87) #[.pointer (some ⟨N, 0, none⟩)] #[]] w (RetL W N M gv (eachF andF s a b) w) :=
  (eachAnd_own W w N M gv va vb s a b h ha hb hwa hwb hl hn).mono fun _ _ h => h.l
set_option maxHeartbeats 8000000 in
theorem eachOr_own (W w : World) (N M : Nat) (gv va vb : Value) (s : BSt) (a b : List Nat) (h : GB W N M gv s w) (ha : WL (Bs N M gv) w va a) (hb : WL (Bs N M gv) w vb b) (hwa : WsB a) (hwb : WsB b) (hl : a.length ≤ b.length) (hn : a.length ≤ 100000) :
    Calls Tryz.prog 86 #[va, vb, .func (.func 94) #[.pointer (some ⟨N, 0, none⟩)] #[]] w (RetO W N M gv (eachF orF s a b) w) := by
  obtain ⟨R, hR⟩ : ∃ R, R = eachF orF s a b := ⟨_, rfl⟩
  have hRl : R.2.length = a.length := by rw [hR]; exact (eachF_wf okOr a b h.wf hwa hwb).2.2
  rw [← hR]
  obtain ⟨Q, hQ⟩ : ∃ Q, Q = RetO W N M gv R w := ⟨_, rfl⟩
  rw [← hQ]
  have HQ := Lib.hid hQ
  obtain ⟨pa, ca, rfl, hna, hma, -⟩ := id ha.1
  obtain ⟨pb, cb, rfl, hnb, hmb, -⟩ := id hb.1
  obtain ⟨n, hnl⟩ : ∃ n, n = a.length := ⟨_, rfl⟩
  obtain ⟨m, hml⟩ : ∃ m, m = b.length := ⟨_, rfl⟩
  rw [← hnl] at hna hn
  rw [← hml] at hnb
  rw [← hnl, ← hml] at hl
  have HW := Lib.hid (And.intro h (And.intro ha (And.intro hb (And.intro hwa (And.intro hwb (And.intro hnl (And.intro hml (And.intro hR hRl))))))))
  have hcI : (ca : Int) ≤ 9223372036854775807 := by unfold maxLen at hma; omega
  have hcJ : (cb : Int) ≤ 9223372036854775807 := by unfold maxLen at hmb; omega
  rw [← hnl, ← hml]
  clear hQ h ha hb hwa hwb hnl hml hR hRl hma hmb
  go_enter Tryz.func86, Tryz.ntmps86
  go_wp2
  go_loopw [7, 11] (fun v i wr => ∃ (k c : Nat) (p : Option Addr) (gv' : Value) (s' : BSt) (l : List Nat), k ≤ n ∧ i = .int .i64 (k : Int) ∧ v = .slice p k c ∧ Hid (EB W N M gv w gv' s' (.slice p k c) l wr) ∧ Hid (l.length = k ∧ R.1 = (eachF orF s' (a.drop k) (b.drop k)).1 ∧ R.2 = l ++ (eachF orF s' (a.drop k) (b.drop k)).2)) (fun _ i _ => n - (intOf i).toNat)
  case atStart => exact ⟨0, 0, none, gv, s, [], Nat.zero_le _, rfl, rfl, Lib.hid (EB.start HW.out.1), Lib.hid ⟨rfl, by rw [HW.out.2.2.2.2.2.2.2.1]; rfl, by rw [HW.out.2.2.2.2.2.2.2.1]; rfl⟩⟩
  case round =>
    obtain ⟨k, c, p, gv', s', l, hk, rfl, rfl, H, HR⟩ := hrel
    by_cases hlt : k < n
    · have hki : (k : Int) < (n : Int) := Int.ofNat_lt.2 hlt
      obtain ⟨x, hx⟩ : ∃ x, a[k]? = some x := ⟨_, List.getElem?_eq_getElem (by have := HW.out.2.2.2.2.2.1; omega)⟩
      obtain ⟨y, hy⟩ : ∃ y, b[k]? = some y := ⟨_, List.getElem?_eq_getElem (by have := HW.out.2.2.2.2.2.2.1; omega)⟩
      obtain ⟨b0, o0, rfl, hcx, hbx, hnx⟩ := HW.out.2.1.get hx
      obtain ⟨b1, o1, rfl, hcy, hby, hny⟩ := HW.out.2.2.1.get hy
      have hwx := HW.out.2.2.2.1 x (List.mem_of_getElem? hx)
      have hwy := HW.out.2.2.2.2.1 y (List.mem_of_getElem? hy)
      obtain ⟨r, hr⟩ : ∃ r, r = orF s' x y := ⟨_, rfl⟩
      have HST : Hid (eachF orF s' (a.drop k) (b.drop k) = ((eachF orF r.1 (a.drop (k + 1)) (b.drop (k + 1))).1, r.2 :: (eachF orF r.1 (a.drop (k + 1)) (b.drop (k + 1))).2)) := Lib.hid (by rw [hr]; exact eachF_step hx hy)
      have hmc : k < ca := by omega
      have hmd : k < cb := by omega
      have hml : k < m := by omega
      have HCL : Hid (b0 < w.heap.size ∧ b0 ∉ Bs N M gv ∧ b1 < w.heap.size ∧ b1 ∉ Bs N M gv) := Lib.hid ⟨hbx, hnx, hby, hny⟩
      have hoff : b0 ∉ Bs N M gv' ∧ b1 ∉ Bs N M gv' := ⟨fun e => (H.out.st.bs b0 e).elim hnx (fun e2 => absurd hbx (Nat.not_lt.2 e2)), fun e => (H.out.st.bs b1 e).elim hny (fun e2 => absurd hby (Nat.not_lt.2 e2))⟩
      have HOF := Lib.hid hoff
      have hc2 : wr.cell? ⟨b0, o0 + k, none⟩ = some (.int .i64 (x : Int)) ∧ wr.cell? ⟨b1, o1 + k, none⟩ = some (.int .i64 (y : Int)) := ⟨H.out.st.kb.cell hnx hcx, H.out.st.kb.cell hny hcy⟩
      have hbl0 : b0 < wr.heap.size := Nat.lt_of_lt_of_le hbx H.out.st.kb.size
      have hbl1 : b1 < wr.heap.size := Nat.lt_of_lt_of_le hby H.out.st.kb.size
      have HF : Hid (∀ w', Ext wr w' → Calls Tryz.prog 94 #[.pointer (some ⟨N, 0, none⟩), .int .i64 (x : Int), .int .i64 (y : Int)] w' (RetW W N M gv' r w')) := Lib.hid (fun w' hx' => by rw [hr]; exact or_any W w' N M gv' s' x y (H.out.gb.next hx') hwx hwy)
      clear hx hy hr hcx hcy hwx hwy hnx hny hbx hby hoff
      go_upto_region 5 with fail
      go_region_held3 (fun w' => w'.cell? ⟨b0, o0 + k, none⟩ = some (.int .i64 (x : Int)) ∧ w'.cell? ⟨b1, o1 + k, none⟩ = some (.int .i64 (y : Int)))
        (first | exact hc2 | exact hq1 | exact hq2 | exact hq3)
        (first | (go_at_call 94; refine (HF.out _ (Ext.refl wr).drew).mono ?_; rintro e w1 ⟨rfl, gv1, hB1, hS1⟩; have hE1 := (H.out.next (Ext.refl wr).drew).call hB1 hS1; have HE1 := Lib.hid (And.intro hE1 (hE1.next ((Ext.refl w1).alloc (.cells #[.int .i64 (r.2 : Int)] 3)))); have hq1 : w1.cell? ⟨b0, o0 + k, none⟩ = some (.int .i64 (x : Int)) ∧ w1.cell? ⟨b1, o1 + k, none⟩ = some (.int .i64 (y : Int)) := ⟨hS1.kb.cell HOF.out.1 hc2.1, hS1.kb.cell HOF.out.2 hc2.2⟩; have hq2 : (w1.alloc (.cells #[.int .i64 (r.2 : Int)] 3)).cell? ⟨b0, o0 + k, none⟩ = some (.int .i64 (x : Int)) ∧ (w1.alloc (.cells #[.int .i64 (r.2 : Int)] 3)).cell? ⟨b1, o1 + k, none⟩ = some (.int .i64 (y : Int)) := ⟨((Ext.refl w1).alloc _).cell hq1.1, ((Ext.refl w1).alloc _).cell hq1.2⟩; clear hB1 hS1 hE1) | (refine step_append_slc _ rfl (.tmp 14) (.tmp 25) 29 rfl w.heap.size 3 (.int .i64 0) 1 8 Tryz.underlying29 infoInt rfl (by decide) (.slice p k c) k (wvs l) rfl (by have := HE1.out.2.own; rw [HR.out.1] at this; exact this) _ 1 [.int .i64 (r.2 : Int)] rfl (SlC.fresh _ #[.int .i64 (r.2 : Int)] _ 1 _ (by simp) (by decide)) rfl (by simp [Value.oneCell']) (by unfold maxLen; omega) (by omega) HE1.out.2.st.kb.size ?_; intro v9 w9 hown9 hg9 hat9; obtain ⟨x9, y9, z9, rfl⟩ := own_slice3 hown9; have HE9 := Lib.hid (HE1.out.2.app (x := r.2) hg9 (by rw [HR.out.1]; exact hown9) hat9); have hq3 : w9.cell? ⟨b0, o0 + k, none⟩ = some (.int .i64 (x : Int)) ∧ w9.cell? ⟨b1, o1 + k, none⟩ = some (.int .i64 (y : Int)) := ⟨HE1.out.2.cell hg9 HCL.out.1 hq2.1, HE1.out.2.cell hg9 HCL.out.2.2.1 hq2.2⟩; clear hown9 hg9 hat9))
      have hy : y9 = k + 1 := by
        obtain ⟨a', c', e, -⟩ := SlC.of_owns HE9.out.own
        simp at e
        have := HR.out.1
        omega
      subst hy
      go_wp2
      refine ⟨⟨k + 1, z9, x9, gv1, r.1, l ++ [r.2], by omega, by go_num, rfl, HE9, Lib.hid ⟨by have := HR.out.1; simp; omega, ?_, ?_⟩⟩, by simp [intOf]; omega⟩
      · have h1 := HR.out.2.1
        rw [HST.out] at h1
        exact h1
      · have h1 := HR.out.2.2
        rw [HST.out] at h1
        rw [h1]; simp
    · have hki : ¬ (k : Int) < (n : Int) := fun e => hlt (Int.ofNat_lt.1 e)
      obtain rfl : k = n := by omega
      go_wp2
      rw [HQ.out]
      have e1 := HW.out.2.2.2.2.2.1
      have hd : a.drop k = [] := List.drop_eq_nil_iff.2 (by omega)
      have hf := HR.out
      rw [hd] at hf
      have e2 : R.1 = s' := hf.2.1
      have e3 : R.2 = l := hf.2.2.trans (List.append_nil l)
      refine ⟨p, c, gv', ?_, Lib.hid ⟨by rw [e2]; exact H.out.gb, H.out.st, ?_, ?_⟩⟩
      · rw [e3, hf.1]
      · rw [e3, hf.1]; exact H.out.done
      · have h9 := H.out.own
        rw [hf.1] at h9
        rw [e3, hf.1]; exact h9
theorem eachOr_any (W w : World) (N M : Nat) (gv va vb : Value) (s : BSt) (a b : List Nat) (h : GB W N M gv s w) (ha : WL (Bs N M gv) w va a) (hb : WL (Bs N M gv) w vb b) (hwa : WsB a) (hwb : WsB b) (hl : a.length ≤ b.length) (hn : a.length ≤ 100000) :
    Calls Tryz.prog 86 #[va, vb, .func (.func 94) #[.pointer (some ⟨N, 0, none⟩)] #[]] w (RetL W N M gv (eachF orF s a b) w) :=
  (eachOr_own W w N M gv va vb s a b h ha hb hwa hwb hl hn).mono fun _ _ h => h.l
set_option maxHeartbeats 8000000 in
theorem eachXor_own (W w : World) (N M : Nat) (gv va vb : Value) (s : BSt) (a b : List Nat) (h : GB W N M gv s w) (ha : WL (Bs N M gv) w va a) (hb : WL (Bs N M gv) w vb b) (hwa : WsB a) (hwb : WsB b) (hl : a.length ≤ b.length) (hn : a.length ≤ 100000) :
    Calls Tryz.prog 86 #[va, vb, .func (.func 91) #[.pointer (some ⟨N, 0, none⟩)] #[]] w (RetO W N M gv (eachF xorF s a b) w) := by
  obtain ⟨R, hR⟩ : ∃ R, R = eachF xorF s a b := ⟨_, rfl⟩
  have hRl : R.2.length = a.length := by rw [hR]; exact (eachF_wf okXor a b h.wf hwa hwb).2.2
  rw [← hR]
  obtain ⟨Q, hQ⟩ : ∃ Q, Q = RetO W N M gv R w := ⟨_, rfl⟩
  rw [← hQ]
  have HQ := Lib.hid hQ
  obtain ⟨pa, ca, rfl, hna, hma, -⟩ := id ha.1
  obtain ⟨pb, cb, rfl, hnb, hmb, -⟩ := id hb.1
  obtain ⟨n, hnl⟩ : ∃ n, n = a.length := ⟨_, rfl⟩
  obtain ⟨m, hml⟩ : ∃ m, m = b.length := ⟨_, rfl⟩
  rw [← hnl] at hna hn
  rw [← hml] at hnb
  rw [← hnl, ← hml] at hl
  have HW := Lib.hid (And.intro h (And.intro ha (And.intro hb (And.intro hwa (And.intro hwb (And.intro hnl (And.intro hml (And.intro hR hRl))))))))
  have hcI : (ca : Int) ≤ 9223372036854775807 := by unfold maxLen at hma; omega
  have hcJ : (cb : Int) ≤ 9223372036854775807 := by unfold maxLen at hmb; omega
  rw [← hnl, ← hml]
  clear hQ h ha hb hwa hwb hnl hml hR hRl hma hmb
  go_enter Tryz.func86, Tryz.ntmps86
  go_wp2
  go_loopw [7, 11] (fun v i wr => ∃ (k c : Nat) (p : Option Addr) (gv' : Value) (s' : BSt) (l : List Nat), k ≤ n ∧ i = .int .i64 (k : Int) ∧ v = .slice p k c ∧ Hid (EB W N M gv w gv' s' (.slice p k c) l wr) ∧ Hid (l.length = k ∧ R.1 = (eachF xorF s' (a.drop k) (b.drop k)).1 ∧ R.2 = l ++ (eachF xorF s' (a.drop k) (b.drop k)).2)) (fun _ i _ => n - (intOf i).toNat)
  case atStart => exact ⟨0, 0, none, gv, s, [], Nat.zero_le _, rfl, rfl, Lib.hid (EB.start HW.out.1), Lib.hid ⟨rfl, by rw [HW.out.2.2.2.2.2.2.2.1]; rfl, by rw [HW.out.2.2.2.2.2.2.2.1]; rfl⟩⟩
  case round =>
    obtain ⟨k, c, p, gv', s', l, hk, rfl, rfl, H, HR⟩ := hrel
    by_cases hlt : k < n
    · have hki : (k : Int) < (n : Int) := Int.ofNat_lt.2 hlt
      obtain ⟨x, hx⟩ : ∃ x, a[k]? = some x := ⟨_, List.getElem?_eq_getElem (by have := HW.out.2.2.2.2.2.1; omega)⟩
      obtain ⟨y, hy⟩ : ∃ y, b[k]? = some y := ⟨_, List.getElem?_eq_getElem (by have := HW.out.2.2.2.2.2.2.1; omega)⟩
      obtain ⟨b0, o0, rfl, hcx, hbx, hnx⟩ := HW.out.2.1.get hx
      obtain ⟨b1, o1, rfl, hcy, hby, hny⟩ := HW.out.2.2.1.get hy
      have hwx := HW.out.2.2.2.1 x (List.mem_of_getElem? hx)
      have hwy := HW.out.2.2.2.2.1 y (List.mem_of_getElem? hy)
      obtain ⟨r, hr⟩ : ∃ r, r = xorF s' x y := ⟨_, rfl⟩
      have HST : Hid (eachF xorF s' (a.drop k) (b.drop k) = ((eachF xorF r.1 (a.drop (k + 1)) (b.drop (k + 1))).1, r.2 :: (eachF xorF r.1 (a.drop (k + 1)) (b.drop (k + 1))).2)) := Lib.hid (by rw [hr]; exact eachF_step hx hy)
      have hmc : k < ca := by omega
      have hmd : k < cb := by omega
      have hml : k < m := by omega
      have HCL : Hid (b0 < w.heap.size ∧ b0 ∉ Bs N M gv ∧ b1 < w.heap.size ∧ b1 ∉ Bs N M gv) := Lib.hid ⟨hbx, hnx, hby, hny⟩
      have hoff : b0 ∉ Bs N M gv' ∧ b1 ∉ Bs N M gv' := ⟨fun e => (H.out.st.bs b0 e).elim hnx (fun e2 => absurd hbx (Nat.not_lt.2 e2)), fun e => (H.out.st.bs b1 e).elim hny (fun e2 => absurd hby (Nat.not_lt.2 e2))⟩
      have HOF := Lib.hid hoff
      have hc2 : wr.cell? ⟨b0, o0 + k, none⟩ = some (.int .i64 (x : Int)) ∧ wr.cell? ⟨b1, o1 + k, none⟩ = some (.int .i64 (y : Int)) := ⟨H.out.st.kb.cell hnx hcx, H.out.st.kb.cell hny hcy⟩
      have hbl0 : b0 < wr.heap.size := Nat.lt_of_lt_of_le hbx H.out.st.kb.size
      have hbl1 : b1 < wr.heap.size := Nat.lt_of_lt_of_le hby H.out.st.kb.size
      have HF : Hid (∀ w', Ext wr w' → Calls Tryz.prog 91 #[.pointer (some ⟨N, 0, none⟩), .int .i64 (x : Int), .int .i64 (y : Int)] w' (RetW W N M gv' r w')) := Lib.hid (fun w' hx' => by rw [hr]; exact xor_any W w' N M gv' s' x y (H.out.gb.next hx') hwx hwy)
      clear hx hy hr hcx hcy hwx hwy hnx hny hbx hby hoff
      go_upto_region 5 with fail
      go_region_held3 (fun w' => w'.cell? ⟨b0, o0 + k, none⟩ = some (.int .i64 (x : Int)) ∧ w'.cell? ⟨b1, o1 + k, none⟩ = some (.int .i64 (y : Int)))
        (first | exact hc2 | exact hq1 | exact hq2 | exact hq3)
        (first | (go_at_call 91; refine (HF.out _ (Ext.refl wr).drew).mono ?_; rintro e w1 ⟨rfl, gv1, hB1, hS1⟩; have hE1 := (H.out.next (Ext.refl wr).drew).call hB1 hS1; have HE1 := Lib.hid (And.intro hE1 (hE1.next ((Ext.refl w1).alloc (.cells #[.int .i64 (r.2 : Int)] 3)))); have hq1 : w1.cell? ⟨b0, o0 + k, none⟩ = some (.int .i64 (x : Int)) ∧ w1.cell? ⟨b1, o1 + k, none⟩ = some (.int .i64 (y : Int)) := ⟨hS1.kb.cell HOF.out.1 hc2.1, hS1.kb.cell HOF.out.2 hc2.2⟩; have hq2 : (w1.alloc (.cells #[.int .i64 (r.2 : Int)] 3)).cell? ⟨b0, o0 + k, none⟩ = some (.int .i64 (x : Int)) ∧ (w1.alloc (.cells #[.int .i64 (r.2 : Int)] 3)).cell? ⟨b1, o1 + k, none⟩ = some (.int .i64 (y : Int)) := ⟨((Ext.refl w1).alloc _).cell hq1.1, ((Ext.refl w1).alloc _).cell hq1.2⟩; clear hB1 hS1 hE1) | (refine step_append_slc _ rfl (.tmp 14) (.tmp 25) 29 rfl w.heap.size 3 (.int .i64 0) 1 8 Tryz.underlying29 infoInt rfl (by decide) (.slice p k c) k (wvs l) rfl (by have := HE1.out.2.own; rw [HR.out.1] at this; exact this) _ 1 [.int .i64 (r.2 : Int)] rfl (SlC.fresh _ #[.int .i64 (r.2 : Int)] _ 1 _ (by simp) (by decide)) rfl (by simp [Value.oneCell']) (by unfold maxLen; omega) (by omega) HE1.out.2.st.kb.size ?_; intro v9 w9 hown9 hg9 hat9; obtain ⟨x9, y9, z9, rfl⟩ := own_slice3 hown9; have HE9 := Lib.hid (HE1.out.2.app (x := r.2) hg9 (by rw [HR.out.1]; exact hown9) hat9); have hq3 : w9.cell? ⟨b0, o0 + k, none⟩ = some (.int .i64 (x : Int)) ∧ w9.cell? ⟨b1, o1 + k, none⟩ = some (.int .i64 (y : Int)) := ⟨HE1.out.2.cell hg9 HCL.out.1 hq2.1, HE1.out.2.cell hg9 HCL.out.2.2.1 hq2.2⟩; clear hown9 hg9 hat9))
      have hy : y9 = k + 1 := by
        obtain ⟨a', c', e, -⟩ := SlC.of_owns HE9.out.own
        simp at e
        have := HR.out.1
        omega
      subst hy
      go_wp2
      refine ⟨⟨k + 1, z9, x9, gv1, r.1, l ++ [r.2], by omega, by go_num, rfl, HE9, Lib.hid ⟨by have := HR.out.1; simp; omega, ?_, ?_⟩⟩, by simp [intOf]; omega⟩
      · have h1 := HR.out.2.1
        rw [HST.out] at h1
        exact h1
      · have h1 := HR.out.2.2
        rw [HST.out] at h1
        rw [h1]; simp
    · have hki : ¬ (k : Int) < (n : Int) := fun e => hlt (Int.ofNat_lt.1 e)
      obtain rfl : k = n := by omega
      go_wp2
      rw [HQ.out]
      have e1 := HW.out.2.2.2.2.2.1
      have hd : a.drop k = [] := List.drop_eq_nil_iff.2 (by omega)
      have hf := HR.out
      rw [hd] at hf
      have e2 : R.1 = s' := hf.2.1
      have e3 : R.2 = l := hf.2.2.trans (List.append_nil l)
      refine ⟨p, c, gv', ?_, Lib.hid ⟨by rw [e2]; exact H.out.gb, H.out.st, ?_, ?_⟩⟩
      · rw [e3, hf.1]
      · rw [e3, hf.1]; exact H.out.done
      · have h9 := H.out.own
        rw [hf.1] at h9
        rw [e3, hf.1]; exact h9
theorem eachXor_any (W w : World) (N M : Nat) (gv va vb : Value) (s : BSt) (a b : List Nat) (h : GB W N M gv s w) (ha : WL (Bs N M gv) w va a) (hb : WL (Bs N M gv) w vb b) (hwa : WsB a) (hwb : WsB b) (hl : a.length ≤ b.length) (hn : a.length ≤ 100000) :
    Calls Tryz.prog 86 #[va, vb, .func (.func 91) #[.pointer (some ⟨N, 0, none⟩)] #[]] w (RetL W N M gv (eachF xorF s a b) w) :=
  (eachXor_own W w N M gv va vb s a b h ha hb hwa hwb hl hn).mono fun _ _ h => h.l
set_option maxHeartbeats 4000000 in
theorem choose1_any (W w : World) (N M : Nat) (gv : Value) (s : BSt) (c x y B1 B2 : Nat) (h : GB W N M gv s w) (hc : WB c) (hx : WB x) (hy : WB y) (h1 : w.cell? ⟨B1, 0, none⟩ = some (.pointer (some ⟨N, 0, none⟩))) (h2 : w.cell? ⟨B2, 0, none⟩ = some (.int .i64 (c : Int))) :
    Calls Tryz.prog 103 #[.int .i64 (x : Int), .int .i64 (y : Int), .pointer (some ⟨B1, 0, none⟩), .pointer (some ⟨B2, 0, none⟩)] w (RetW W N M gv (muxF c s x y) w) := by
  obtain ⟨R, hR⟩ : ∃ R, R = muxF c s x y := ⟨_, rfl⟩
  rw [← hR]
  obtain ⟨Q, hQ⟩ : ∃ Q, Q = RetW W N M gv R w := ⟨_, rfl⟩
  rw [← hQ]
  have HQ := Lib.hid hQ
  have HM := Lib.hid (mux_any W w N M gv s c x y h hc hx hy)
  rw [← hR] at HM
  clear hQ h hc hx hy hR
  go_enter Tryz.func103, Tryz.ntmps103
  go_wp2_with (go_at_call 104; refine HM.out.mono ?_; rintro e w1 ⟨rfl, gv1, hB1⟩; have HP := Lib.hid hB1; clear hB1)
  rw [HQ.out]
  exact ⟨rfl, gv1, HP.out⟩
set_option maxHeartbeats 8000000 in
theorem eachMux_own (W w : World) (N M : Nat) (gv va vb : Value) (s : BSt) (a b : List Nat) (h : GB W N M gv s w) (ha : WL (Bs N M gv) w va a) (hb : WL (Bs N M gv) w vb b) (hwa : WsB a) (hwb : WsB b) (hl : a.length ≤ b.length) (hn : a.length ≤ 100000) (cc B1 B2 : Nat) (hcc : WB cc) (hcap1 : w.cell? ⟨B1, 0, none⟩ = some (.pointer (some ⟨N, 0, none⟩))) (hcap2 : w.cell? ⟨B2, 0, none⟩ = some (.int .i64 (cc : Int))) (hB1 : B1 ∉ Bs N M gv) (hB2 : B2 ∉ Bs N M gv) :
    Calls Tryz.prog 86 #[va, vb, .func (.func 103) #[] #[.pointer (some ⟨B1, 0, none⟩), .pointer (some ⟨B2, 0, none⟩)]] w (RetO W N M gv (eachF (muxF cc) s a b) w) := by
  obtain ⟨R, hR⟩ : ∃ R, R = eachF (muxF cc) s a b := ⟨_, rfl⟩
  have hRl : R.2.length = a.length := by rw [hR]; exact (eachF_wf (okMux hcc) a b h.wf hwa hwb).2.2
  rw [← hR]
  obtain ⟨Q, hQ⟩ : ∃ Q, Q = RetO W N M gv R w := ⟨_, rfl⟩
  rw [← hQ]
  have HQ := Lib.hid hQ
  obtain ⟨pa, ca, rfl, hna, hma, -⟩ := id ha.1
  obtain ⟨pb, cb, rfl, hnb, hmb, -⟩ := id hb.1
  obtain ⟨n, hnl⟩ : ∃ n, n = a.length := ⟨_, rfl⟩
  obtain ⟨m, hml⟩ : ∃ m, m = b.length := ⟨_, rfl⟩
  rw [← hnl] at hna hn
  rw [← hml] at hnb
  rw [← hnl, ← hml] at hl
  have HW := Lib.hid (And.intro h (And.intro ha (And.intro hb (And.intro hwa (And.intro hwb (And.intro hnl (And.intro hml (And.intro hR hRl))))))))
  have hcI : (ca : Int) ≤ 9223372036854775807 := by unfold maxLen at hma; omega
  have hcJ : (cb : Int) ≤ 9223372036854775807 := by unfold maxLen at hmb; omega
  rw [← hnl, ← hml]
  have HCAP := Lib.hid (And.intro hcc (And.intro hcap1 (And.intro hcap2 (And.intro hB1 hB2))))
  clear hcc hcap1 hcap2 hB1 hB2
  clear hQ h ha hb hwa hwb hnl hml hR hRl hma hmb
  go_enter Tryz.func86, Tryz.ntmps86
  go_wp2
  go_loopw [7, 11] (fun v i wr => ∃ (k c : Nat) (p : Option Addr) (gv' : Value) (s' : BSt) (l : List Nat), k ≤ n ∧ i = .int .i64 (k : Int) ∧ v = .slice p k c ∧ Hid (EB W N M gv w gv' s' (.slice p k c) l wr) ∧ Hid (l.length = k ∧ R.1 = (eachF (muxF cc) s' (a.drop k) (b.drop k)).1 ∧ R.2 = l ++ (eachF (muxF cc) s' (a.drop k) (b.drop k)).2)) (fun _ i _ => n - (intOf i).toNat)
  case atStart => exact ⟨0, 0, none, gv, s, [], Nat.zero_le _, rfl, rfl, Lib.hid (EB.start HW.out.1), Lib.hid ⟨rfl, by rw [HW.out.2.2.2.2.2.2.2.1]; rfl, by rw [HW.out.2.2.2.2.2.2.2.1]; rfl⟩⟩
  case round =>
    obtain ⟨k, c, p, gv', s', l, hk, rfl, rfl, H, HR⟩ := hrel
    by_cases hlt : k < n
    · have hki : (k : Int) < (n : Int) := Int.ofNat_lt.2 hlt
      obtain ⟨x, hx⟩ : ∃ x, a[k]? = some x := ⟨_, List.getElem?_eq_getElem (by have := HW.out.2.2.2.2.2.1; omega)⟩
      obtain ⟨y, hy⟩ : ∃ y, b[k]? = some y := ⟨_, List.getElem?_eq_getElem (by have := HW.out.2.2.2.2.2.2.1; omega)⟩
      obtain ⟨b0, o0, rfl, hcx, hbx, hnx⟩ := HW.out.2.1.get hx
      obtain ⟨b1, o1, rfl, hcy, hby, hny⟩ := HW.out.2.2.1.get hy
      have hwx := HW.out.2.2.2.1 x (List.mem_of_getElem? hx)
      have hwy := HW.out.2.2.2.2.1 y (List.mem_of_getElem? hy)
      obtain ⟨r, hr⟩ : ∃ r, r = (muxF cc) s' x y := ⟨_, rfl⟩
      have HST : Hid (eachF (muxF cc) s' (a.drop k) (b.drop k) = ((eachF (muxF cc) r.1 (a.drop (k + 1)) (b.drop (k + 1))).1, r.2 :: (eachF (muxF cc) r.1 (a.drop (k + 1)) (b.drop (k + 1))).2)) := Lib.hid (by rw [hr]; exact eachF_step hx hy)
      have hmc : k < ca := by omega
      have hmd : k < cb := by omega
      have hml : k < m := by omega
      have HCL : Hid (b0 < w.heap.size ∧ b0 ∉ Bs N M gv ∧ b1 < w.heap.size ∧ b1 ∉ Bs N M gv) := Lib.hid ⟨hbx, hnx, hby, hny⟩
      have hoff : b0 ∉ Bs N M gv' ∧ b1 ∉ Bs N M gv' := ⟨fun e => (H.out.st.bs b0 e).elim hnx (fun e2 => absurd hbx (Nat.not_lt.2 e2)), fun e => (H.out.st.bs b1 e).elim hny (fun e2 => absurd hby (Nat.not_lt.2 e2))⟩
      have HOF := Lib.hid hoff
      have hc2 : wr.cell? ⟨b0, o0 + k, none⟩ = some (.int .i64 (x : Int)) ∧ wr.cell? ⟨b1, o1 + k, none⟩ = some (.int .i64 (y : Int)) := ⟨H.out.st.kb.cell hnx hcx, H.out.st.kb.cell hny hcy⟩
      have hbl0 : b0 < wr.heap.size := Nat.lt_of_lt_of_le hbx H.out.st.kb.size
      have hbl1 : b1 < wr.heap.size := Nat.lt_of_lt_of_le hby H.out.st.kb.size
      have HF : Hid (∀ w', Ext wr w' → Calls Tryz.prog 103 #[.int .i64 (x : Int), .int .i64 (y : Int), .pointer (some ⟨B1, 0, none⟩), .pointer (some ⟨B2, 0, none⟩)] w' (RetW W N M gv' r w')) := Lib.hid (fun w' hx' => by rw [hr]; exact choose1_any W w' N M gv' s' cc x y B1 B2 (H.out.gb.next hx') HCAP.out.1 hwx hwy (hx'.cell (H.out.st.kb.cell HCAP.out.2.2.2.1 HCAP.out.2.1)) (hx'.cell (H.out.st.kb.cell HCAP.out.2.2.2.2 HCAP.out.2.2.1)))
      clear hx hy hr hcx hcy hwx hwy hnx hny hbx hby hoff
      go_upto_region 5 with fail
      go_region_held3 (fun w' => w'.cell? ⟨b0, o0 + k, none⟩ = some (.int .i64 (x : Int)) ∧ w'.cell? ⟨b1, o1 + k, none⟩ = some (.int .i64 (y : Int)))
        (first | exact hc2 | exact hq1 | exact hq2 | exact hq3)
        (first | (go_at_call 103; refine (HF.out _ (Ext.refl wr).drew).mono ?_; rintro e w1 ⟨rfl, gv1, hB1, hS1⟩; have hE1 := (H.out.next (Ext.refl wr).drew).call hB1 hS1; have HE1 := Lib.hid (And.intro hE1 (hE1.next ((Ext.refl w1).alloc (.cells #[.int .i64 (r.2 : Int)] 3)))); have hq1 : w1.cell? ⟨b0, o0 + k, none⟩ = some (.int .i64 (x : Int)) ∧ w1.cell? ⟨b1, o1 + k, none⟩ = some (.int .i64 (y : Int)) := ⟨hS1.kb.cell HOF.out.1 hc2.1, hS1.kb.cell HOF.out.2 hc2.2⟩; have hq2 : (w1.alloc (.cells #[.int .i64 (r.2 : Int)] 3)).cell? ⟨b0, o0 + k, none⟩ = some (.int .i64 (x : Int)) ∧ (w1.alloc (.cells #[.int .i64 (r.2 : Int)] 3)).cell? ⟨b1, o1 + k, none⟩ = some (.int .i64 (y : Int)) := ⟨((Ext.refl w1).alloc _).cell hq1.1, ((Ext.refl w1).alloc _).cell hq1.2⟩; clear hB1 hS1 hE1) | (refine step_append_slc _ rfl (.tmp 14) (.tmp 25) 29 rfl w.heap.size 3 (.int .i64 0) 1 8 Tryz.underlying29 infoInt rfl (by decide) (.slice p k c) k (wvs l) rfl (by have := HE1.out.2.own; rw [HR.out.1] at this; exact this) _ 1 [.int .i64 (r.2 : Int)] rfl (SlC.fresh _ #[.int .i64 (r.2 : Int)] _ 1 _ (by simp) (by decide)) rfl (by simp [Value.oneCell']) (by unfold maxLen; omega) (by omega) HE1.out.2.st.kb.size ?_; intro v9 w9 hown9 hg9 hat9; obtain ⟨x9, y9, z9, rfl⟩ := own_slice3 hown9; have HE9 := Lib.hid (HE1.out.2.app (x := r.2) hg9 (by rw [HR.out.1]; exact hown9) hat9); have hq3 : w9.cell? ⟨b0, o0 + k, none⟩ = some (.int .i64 (x : Int)) ∧ w9.cell? ⟨b1, o1 + k, none⟩ = some (.int .i64 (y : Int)) := ⟨HE1.out.2.cell hg9 HCL.out.1 hq2.1, HE1.out.2.cell hg9 HCL.out.2.2.1 hq2.2⟩; clear hown9 hg9 hat9))
      have hy : y9 = k + 1 := by
        obtain ⟨a', c', e, -⟩ := SlC.of_owns HE9.out.own
        simp at e
        have := HR.out.1
        omega
      subst hy
      go_wp2
      refine ⟨⟨k + 1, z9, x9, gv1, r.1, l ++ [r.2], by omega, by go_num, rfl, HE9, Lib.hid ⟨by have := HR.out.1; simp; omega, ?_, ?_⟩⟩, by simp [intOf]; omega⟩
      · have h1 := HR.out.2.1
        rw [HST.out] at h1
        exact h1
      · have h1 := HR.out.2.2
        rw [HST.out] at h1
        rw [h1]; simp
    · have hki : ¬ (k : Int) < (n : Int) := fun e => hlt (Int.ofNat_lt.1 e)
      obtain rfl : k = n := by omega
      go_wp2
      rw [HQ.out]
      have e1 := HW.out.2.2.2.2.2.1
      have hd : a.drop k = [] := List.drop_eq_nil_iff.2 (by omega)
      have hf := HR.out
      rw [hd] at hf
      have e2 : R.1 = s' := hf.2.1
      have e3 : R.2 = l := hf.2.2.trans (List.append_nil l)
      refine ⟨p, c, gv', ?_, Lib.hid ⟨by rw [e2]; exact H.out.gb, H.out.st, ?_, ?_⟩⟩
      · rw [e3, hf.1]
      · rw [e3, hf.1]; exact H.out.done
      · have h9 := H.out.own
        rw [hf.1] at h9
        rw [e3, hf.1]; exact h9
theorem eachMux_any (W w : World) (N M : Nat) (gv va vb : Value) (s : BSt) (a b : List Nat) (h : GB W N M gv s w) (ha : WL (Bs N M gv) w va a) (hb : WL (Bs N M gv) w vb b) (hwa : WsB a) (hwb : WsB b) (hl : a.length ≤ b.length) (hn : a.length ≤ 100000) (cc B1 B2 : Nat) (hcc : WB cc) (hcap1 : w.cell? ⟨B1, 0, none⟩ = some (.pointer (some ⟨N, 0, none⟩))) (hcap2 : w.cell? ⟨B2, 0, none⟩ = some (.int .i64 (cc : Int))) (hB1 : B1 ∉ Bs N M gv) (hB2 : B2 ∉ Bs N M gv) :
    Calls Tryz.prog 86 #[va, vb, .func (.func 103) #[] #[.pointer (some ⟨B1, 0, none⟩), .pointer (some ⟨B2, 0, none⟩)]] w (RetL W N M gv (eachF (muxF cc) s a b) w) :=
  (eachMux_own W w N M gv va vb s a b h ha hb hwa hwb hl hn cc B1 B2 hcc hcap1 hcap2 hB1 hB2).mono fun _ _ h => h.l
set_option maxHeartbeats 4000000 in
theorem choose_own (W w : World) (N M : Nat) (gv va vb : Value) (s : BSt) (c : Nat) (a b : List Nat) (h : GB W N M gv s w) (hc : WB c) (ha : WL (Bs N M gv) w va a) (hb : WL (Bs N M gv) w vb b) (hwa : WsB a) (hwb : WsB b) (hl : a.length ≤ b.length) (hn : a.length ≤ 100000) :
    Calls Tryz.prog 90 #[.pointer (some ⟨N, 0, none⟩), .int .i64 (c : Int), va, vb] w (RetO W N M gv (chooseF s c a b) w) := by
  obtain ⟨R, hR⟩ : ∃ R, R = chooseF s c a b := ⟨_, rfl⟩
  rw [← hR]
  obtain ⟨Q, hQ⟩ : ∃ Q, Q = RetO W N M gv R w := ⟨_, rfl⟩
  rw [← hQ]
  have HQ := Lib.hid hQ
  have hmf : ∀ (fn : Fn) (first cap : Array Value) (w : World), (Instr.makeFunc fn first cap).run Tryz.prog w = .ok (.func fn first cap) w := fun _ _ _ _ => rfl
  have hE1 : Ext w (w.alloc (.cells #[.pointer (some ⟨N, 0, none⟩)] 51)) := (Ext.refl w).alloc _
  have hE2 : Ext w ((w.alloc (.cells #[.pointer (some ⟨N, 0, none⟩)] 51)).alloc (.cells #[.int .i64 (c : Int)] 3)) := hE1.alloc _
  have hB1 := (BoxV.of_row (heap_alloc_last w (.cells #[.pointer (some ⟨N, 0, none⟩)] 51))).ext ((Ext.refl _).alloc (.cells #[.int .i64 (c : Int)] 3))
  have hB2 := BoxV.of_row (heap_alloc_last (w.alloc (.cells #[.pointer (some ⟨N, 0, none⟩)] 51)) (.cells #[.int .i64 (c : Int)] 3))
  rw [World.size_alloc] at hB2
  have hX1 : w.heap.size ∉ Bs N M gv := fun e => Nat.lt_irrefl _ (h.lts _ e)
  have hX2 : w.heap.size + 1 ∉ Bs N M gv := fun e => by have := h.lts _ e; omega
  have HM := Lib.hid (eachMux_own W _ N M gv va vb s a b (h.next hE2) (ha.ext hE2) (hb.ext hE2) hwa hwb hl hn c w.heap.size (w.heap.size + 1) hc (hB1.cells 0 _ rfl) (hB2.cells 0 _ rfl) hX1 hX2)
  rw [show eachF (muxF c) s a b = R from hR.symm] at HM
  have HE := Lib.hid hE2
  clear hQ h hc ha hb hwa hwb hl hn hR hE1 hE2 hB1 hB2 hX1 hX2
  go_enter Tryz.func90, Tryz.ntmps90
  go_wp2_with (go_at_call 86; refine HM.out.mono ?_; rintro e w1 ⟨p, cp, gv1, rfl, H1⟩)
  rw [HQ.out]
  exact ⟨p, cp, gv1, rfl, Lib.hid ⟨H1.out.1, (Stp.of_ext HE.out).trans H1.out.2.1, H1.out.2.2.1, own_base H1.out.2.2.2 HE.out.size⟩⟩
theorem choose_any (W w : World) (N M : Nat) (gv va vb : Value) (s : BSt) (c : Nat) (a b : List Nat) (h : GB W N M gv s w) (hc : WB c) (ha : WL (Bs N M gv) w va a) (hb : WL (Bs N M gv) w vb b) (hwa : WsB a) (hwb : WsB b) (hl : a.length ≤ b.length) (hn : a.length ≤ 100000) :
    Calls Tryz.prog 90 #[.pointer (some ⟨N, 0, none⟩), .int .i64 (c : Int), va, vb] w (RetL W N M gv (chooseF s c a b) w) :=
  (choose_own W w N M gv va vb s c a b h hc ha hb hwa hwb hl hn).mono fun _ _ h => h.l
end Go.Proofs.YtdjnekcpeaadhaaGreat
namespace Go.Proofs.YtdjnekcpeaadhaaGreat
open Go.RowKit Go.Maps
set_option linter.unusedSimpArgs false
set_option linter.unusedVariables false
set_option maxRecDepth 100000

/-- What a sum tells. -/
def RetS (W : World) (N M : Nat) (gv : Value) (r : BSt × List Nat × Nat) (w : World) (e : Ending) (w' : World) : Prop :=
  ∃ a c gv', e = .returned (.tuple #[.slice a r.2.1.length c, .int .i64 (r.2.2 : Int)]) ∧ Hid (GB W N M gv' r.1 w' ∧ Stp N M gv gv' w w' ∧ WL (Bs N M gv') w' (.slice a r.2.1.length c) r.2.1)
theorem sumF_step {s : BSt} {a b : List Nat} {k x y c : Nat} (hx : a[k]? = some x) (hy : b[k]? = some y) : sumF s (a.drop k) (b.drop k) c =
    ((sumF (addS s x y c).1 (a.drop (k + 1)) (b.drop (k + 1)) (addS s x y c).2.2).1, (addS s x y c).2.1 :: (sumF (addS s x y c).1 (a.drop (k + 1)) (b.drop (k + 1)) (addS s x y c).2.2).2.1, (sumF (addS s x y c).1 (a.drop (k + 1)) (b.drop (k + 1)) (addS s x y c).2.2).2.2) := by
  obtain ⟨h1, rfl⟩ := List.getElem?_eq_some_iff.1 hx
  obtain ⟨h2, rfl⟩ := List.getElem?_eq_some_iff.1 hy
  rw [List.drop_eq_getElem_cons h1, List.drop_eq_getElem_cons h2]
  rfl
set_option maxHeartbeats 8000000 in
theorem sum_any (W w : World) (N M : Nat) (gv va vb : Value) (s : BSt) (a b : List Nat) (cy : Nat) (h : GB W N M gv s w) (ha : WL (Bs N M gv) w va a) (hb : WL (Bs N M gv) w vb b) (hwa : WsB a) (hwb : WsB b) (hwc : WB cy) (hl : a.length ≤ b.length) (hn : a.length ≤ 100000) :
    Calls Tryz.prog 82 #[.pointer (some ⟨N, 0, none⟩), va, vb, .int .i64 (cy : Int)] w (RetS W N M gv (sumF s a b cy) w) := by
  obtain ⟨R, hR⟩ : ∃ R, R = sumF s a b cy := ⟨_, rfl⟩
  have hRl : R.2.1.length = a.length := by rw [hR]; exact (sumF_wf a b h.wf hwa hwb hwc).2.2.2
  rw [← hR]
  obtain ⟨Q, hQ⟩ : ∃ Q, Q = RetS W N M gv R w := ⟨_, rfl⟩
  rw [← hQ]
  have HQ := Lib.hid hQ
  obtain ⟨pa, ca, rfl, hna, hma, -⟩ := id ha.1
  obtain ⟨pb, cb, rfl, hnb, hmb, -⟩ := id hb.1
  obtain ⟨n, hnl⟩ : ∃ n, n = a.length := ⟨_, rfl⟩
  obtain ⟨m, hml⟩ : ∃ m, m = b.length := ⟨_, rfl⟩
  rw [← hnl] at hna hn
  rw [← hml] at hnb
  rw [← hnl, ← hml] at hl
  have HW := Lib.hid (And.intro h (And.intro ha (And.intro hb (And.intro hwa (And.intro hwb (And.intro hnl (And.intro hml (And.intro hR (And.intro hRl hwc)))))))))
  have hcI : (ca : Int) ≤ 9223372036854775807 := by unfold maxLen at hma; omega
  have hcJ : (cb : Int) ≤ 9223372036854775807 := by unfold maxLen at hmb; omega
  rw [← hnl, ← hml]
  clear hQ h ha hb hwa hwb hnl hml hR hRl hma hmb hwc
  go_enter Tryz.func82, Tryz.ntmps82
  go_wp2
  go_loopw [3, 10, 15] (fun u v i wr => ∃ (k c cc : Nat) (p : Option Addr) (gv' : Value) (s' : BSt) (l : List Nat), k ≤ n ∧ u = .int .i64 (cc : Int) ∧ i = .int .i64 (k : Int) ∧ v = .slice p k c ∧ Hid (EB W N M gv w gv' s' (.slice p k c) l wr) ∧ Hid (WB cc ∧ l.length = k ∧ R.1 = (sumF s' (a.drop k) (b.drop k) cc).1 ∧ R.2.1 = l ++ (sumF s' (a.drop k) (b.drop k) cc).2.1 ∧ R.2.2 = (sumF s' (a.drop k) (b.drop k) cc).2.2)) (fun _ _ i _ => n - (intOf i).toNat)
  case atStart => exact ⟨0, 0, cy, none, gv, s, [], Nat.zero_le _, rfl, rfl, rfl, Lib.hid (EB.start HW.out.1), Lib.hid ⟨HW.out.2.2.2.2.2.2.2.2.2, rfl, by rw [HW.out.2.2.2.2.2.2.2.1]; rfl, by rw [HW.out.2.2.2.2.2.2.2.1]; rfl, by rw [HW.out.2.2.2.2.2.2.2.1]; rfl⟩⟩
  case round =>
    obtain ⟨k, c, cc, p, gv', s', l, hk, rfl, rfl, rfl, H, HR⟩ := hrel
    by_cases hlt : k < n
    · have hki : (k : Int) < (n : Int) := Int.ofNat_lt.2 hlt
      obtain ⟨x, hx⟩ : ∃ x, a[k]? = some x := ⟨_, List.getElem?_eq_getElem (by have := HW.out.2.2.2.2.2.1; omega)⟩
      obtain ⟨y, hy⟩ : ∃ y, b[k]? = some y := ⟨_, List.getElem?_eq_getElem (by have := HW.out.2.2.2.2.2.2.1; omega)⟩
      obtain ⟨b0, o0, rfl, hcx, hbx, hnx⟩ := HW.out.2.1.get hx
      obtain ⟨b1, o1, rfl, hcy, hby, hny⟩ := HW.out.2.2.1.get hy
      have hwx := HW.out.2.2.2.1 x (List.mem_of_getElem? hx)
      have hwy := HW.out.2.2.2.2.1 y (List.mem_of_getElem? hy)
      have hwc := HR.out.1
      have HST := Lib.hid (sumF_step (s := s') (c := cc) hx hy)
      obtain ⟨rx, hrx⟩ : ∃ r, r = xorF s' x y := ⟨_, rfl⟩
      obtain ⟨ry, hry⟩ : ∃ r, r = xorF rx.1 rx.2 cc := ⟨_, rfl⟩
      obtain ⟨rp, hrp⟩ : ∃ r, r = andF ry.1 x y := ⟨_, rfl⟩
      obtain ⟨rq, hrq⟩ : ∃ r, r = andF rp.1 rx.2 cc := ⟨_, rfl⟩
      obtain ⟨ro, hro⟩ : ∃ r, r = orF rq.1 rp.2 rq.2 := ⟨_, rfl⟩
      have hA : addS s' x y cc = (ro.1, ry.2, ro.2) := by rw [hro, hrq, hrp, hry, hrx]; rfl
      rw [hA] at HST
      have wx : BWf rx.1 ∧ WB rx.2 := by rw [hrx]; exact xorF_wf H.out.gb.wf hwx hwy
      have wy : BWf ry.1 ∧ WB ry.2 := by rw [hry]; exact xorF_wf wx.1 wx.2 hwc
      have wp : BWf rp.1 ∧ WB rp.2 := by rw [hrp]; exact andF_wf wy.1 hwx hwy
      have wq : BWf rq.1 ∧ WB rq.2 := by rw [hrq]; exact andF_wf wp.1 wx.2 hwc
      have wo : BWf ro.1 ∧ WB ro.2 := by rw [hro]; exact orF_wf wq.1 wp.2 wq.2
      have hmc : k < ca := by omega
      have hmd : k < cb := by omega
      have hml : k < m := by omega
      have HCL : Hid (b0 < w.heap.size ∧ b0 ∉ Bs N M gv ∧ b1 < w.heap.size ∧ b1 ∉ Bs N M gv ∧ w.cell? ⟨b0, o0 + k, none⟩ = some (.int .i64 (x : Int)) ∧ w.cell? ⟨b1, o1 + k, none⟩ = some (.int .i64 (y : Int))) := Lib.hid ⟨hbx, hnx, hby, hny, hcx, hcy⟩
      have HCC : Hid (∀ {g1 : Value} {s1 : BSt} {v1 : Value} {l1 : List Nat} {w1 : World}, EB W N M gv w g1 s1 v1 l1 w1 → w1.cell? ⟨b0, o0 + k, none⟩ = some (.int .i64 (x : Int)) ∧ w1.cell? ⟨b1, o1 + k, none⟩ = some (.int .i64 (y : Int))) := Lib.hid (fun h1 => ⟨h1.st.kb.cell hnx hcx, h1.st.kb.cell hny hcy⟩)
      have hc2 := HCC.out H.out
      have hbl0 : b0 < wr.heap.size := Nat.lt_of_lt_of_le hbx H.out.st.kb.size
      have hbl1 : b1 < wr.heap.size := Nat.lt_of_lt_of_le hby H.out.st.kb.size
      have HX : Hid (∀ gv1 w1, GB W N M gv1 s' w1 → Calls Tryz.prog 91 #[.pointer (some ⟨N, 0, none⟩), .int .i64 (x : Int), .int .i64 (y : Int)] w1 (RetW W N M gv1 rx w1)) := Lib.hid (fun gv1 w1 h1 => by rw [hrx]; exact xor_any W w1 N M gv1 s' x y h1 hwx hwy)
      have HY : Hid (∀ gv1 w1, GB W N M gv1 rx.1 w1 → Calls Tryz.prog 91 #[.pointer (some ⟨N, 0, none⟩), .int .i64 (rx.2 : Int), .int .i64 (cc : Int)] w1 (RetW W N M gv1 ry w1)) := Lib.hid (fun gv1 w1 h1 => by rw [hry]; exact xor_any W w1 N M gv1 rx.1 rx.2 cc h1 wx.2 hwc)
      have HP : Hid (∀ gv1 w1, GB W N M gv1 ry.1 w1 → Calls Tryz.prog 87 #[.pointer (some ⟨N, 0, none⟩), .int .i64 (x : Int), .int .i64 (y : Int)] w1 (RetW W N M gv1 rp w1)) := Lib.hid (fun gv1 w1 h1 => by rw [hrp]; exact and_any W w1 N M gv1 ry.1 x y h1 hwx hwy)
      have HQ2 : Hid (∀ gv1 w1, GB W N M gv1 rp.1 w1 → Calls Tryz.prog 87 #[.pointer (some ⟨N, 0, none⟩), .int .i64 (rx.2 : Int), .int .i64 (cc : Int)] w1 (RetW W N M gv1 rq w1)) := Lib.hid (fun gv1 w1 h1 => by rw [hrq]; exact and_any W w1 N M gv1 rp.1 rx.2 cc h1 wx.2 hwc)
      have HO : Hid (∀ gv1 w1, GB W N M gv1 rq.1 w1 → Calls Tryz.prog 94 #[.pointer (some ⟨N, 0, none⟩), .int .i64 (rp.2 : Int), .int .i64 (rq.2 : Int)] w1 (RetW W N M gv1 ro w1)) := Lib.hid (fun gv1 w1 h1 => by rw [hro]; exact or_any W w1 N M gv1 rq.1 rp.2 rq.2 h1 wp.2 wq.2)
      have HWO := Lib.hid wo.2
      clear hx hy hcx hcy hwx hwy hwc hnx hny hbx hby hrx hry hrp hrq hro hA wx wy wp wq wo
      go_upto_region 5 with fail
      go_region_held3 (fun w' => w'.cell? ⟨b0, o0 + k, none⟩ = some (.int .i64 (x : Int)) ∧ w'.cell? ⟨b1, o1 + k, none⟩ = some (.int .i64 (y : Int)))
        (first | exact hc2 | exact hc3)
        (first | (go_at_call 91; refine (HX.out _ _ (H.out.gb.next (Ext.refl wr).drew)).mono ?_; rintro e w1 ⟨rfl, gv1, hB1, hS1⟩; have HE1 := Lib.hid ((H.out.next (Ext.refl wr).drew).call hB1 hS1); have hc3 := HCC.out HE1.out; clear hB1 hS1))
      clear hc2 hbl0 hbl1
      go_upto_region 7 with (first | (go_at_call 91; refine (HY.out _ _ HE1.out.gb).mono ?_; rintro e w2 ⟨rfl, gv2, hB2, hS2⟩; have HE2 := Lib.hid ((HE1.out.call hB2 hS2).next ((Ext.refl w2).alloc (.cells #[.int .i64 (ry.2 : Int)] 3))); clear hB2 hS2) | (at_builtin; (refine wpList_append_slc _ rfl (.tmp 28) (.tmp 33) 29 rfl w.heap.size 3 (.int .i64 0) 1 8 Tryz.underlying29 infoInt rfl (by decide) (.slice p k c) k (wvs l) rfl (by have := HE2.out.own; rw [HR.out.2.1] at this; exact this) _ 1 [.int .i64 (ry.2 : Int)] rfl (SlC.fresh _ #[.int .i64 (ry.2 : Int)] _ 1 _ (by simp) (by decide)) rfl (by simp [Value.oneCell']) (by unfold maxLen; omega) (by omega) HE2.out.st.kb.size ?_; intro v9 w9 hown9 hg9 hat9; obtain ⟨x9, y9, z9, rfl⟩ := own_slice3 hown9; have HE3 := Lib.hid (HE2.out.app (x := ry.2) hg9 (by rw [HR.out.2.1]; exact hown9) hat9); clear hown9 hg9 hat9)))
      have hy : y9 = k + 1 := by
        obtain ⟨a', c', e, -⟩ := SlC.of_owns HE3.out.own
        simp at e
        have := HR.out.2.1
        omega
      subst hy
      have hc4 := HCC.out HE3.out
      have hbl0 : b0 < w9.heap.size := Nat.lt_of_lt_of_le HCL.out.1 HE3.out.st.kb.size
      have hbl1 : b1 < w9.heap.size := Nat.lt_of_lt_of_le HCL.out.2.2.1 HE3.out.st.kb.size
      clear hc3
      go_region_held3 (fun w' => w'.cell? ⟨b0, o0 + k, none⟩ = some (.int .i64 (x : Int)) ∧ w'.cell? ⟨b1, o1 + k, none⟩ = some (.int .i64 (y : Int)))
        (first | exact hc4 | exact hc5 | exact hc6 | exact hc7)
        (first | (go_at_call 87; first | (refine (HQ2.out _ _ HE4.out.gb).mono ?_; rintro e w5 ⟨rfl, gv5, hB5, hS5⟩; have HE5 := Lib.hid (HE4.out.call hB5 hS5); have hc6 := HCC.out HE5.out; clear hB5 hS5) | (refine (HP.out _ _ (HE3.out.gb.next (Ext.refl w9).drew)).mono ?_; rintro e w4 ⟨rfl, gv4, hB4, hS4⟩; have HE4 := Lib.hid ((HE3.out.next (Ext.refl w9).drew).call hB4 hS4); have hc5 := HCC.out HE4.out; clear hB4 hS4)) | (go_at_call 94; refine (HO.out _ _ HE5.out.gb).mono ?_; rintro e w6 ⟨rfl, gv6, hB6, hS6⟩; have HE6 := Lib.hid (HE5.out.call hB6 hS6); have hc7 := HCC.out HE6.out; clear hB6 hS6))
      go_wp2
      refine ⟨⟨k + 1, z9, ro.2, x9, gv6, ro.1, l ++ [ry.2], by omega, rfl, by go_num, rfl, HE6, Lib.hid ⟨HWO.out, by have := HR.out.2.1; simp; omega, ?_, ?_, ?_⟩⟩, by simp [intOf]; omega⟩
      · have h1 := HR.out.2.2.1
        rw [HST.out] at h1
        exact h1
      · have h1 := HR.out.2.2.2.1
        rw [HST.out] at h1
        rw [h1]; simp
      · have h1 := HR.out.2.2.2.2
        rw [HST.out] at h1
        exact h1
    · have hki : ¬ (k : Int) < (n : Int) := fun e => hlt (Int.ofNat_lt.1 e)
      obtain rfl : k = n := by omega
      go_wp2
      rw [HQ.out]
      have e1 := HW.out.2.2.2.2.2.1
      have hd : a.drop k = [] := List.drop_eq_nil_iff.2 (by omega)
      have hf := HR.out.2
      rw [hd] at hf
      have e2 : R.1 = s' := hf.2.1
      have e3 : R.2.1 = l := hf.2.2.1.trans (List.append_nil l)
      have e4 : R.2.2 = cc := hf.2.2.2
      refine ⟨p, c, gv', ?_, Lib.hid ⟨by rw [e2]; exact H.out.gb, H.out.st, ?_⟩⟩
      · rw [e3, hf.1, e4]
      · rw [e3, hf.1]; exact H.out.done
end Go.Proofs.YtdjnekcpeaadhaaGreat
namespace Go.Proofs.YtdjnekcpeaadhaaGreat
open Go.RowKit Go.Maps
set_option linter.unusedSimpArgs false
set_option linter.unusedVariables false
set_option maxRecDepth 100000

theorem RowF.wl {w w1 : World} {N M : Nat} {gv v : Value} {l : List Nat} (h : RowF w w1 v l) (hB : ∀ b ∈ Bs N M gv, b < w.heap.size) : WL (Bs N M gv) w1 v l := WL.own (w := w) h.own hB
set_option maxHeartbeats 4000000 in
theorem less_any (W w : World) (N M : Nat) (gv va vb : Value) (s : BSt) (a b : List Nat) (h : GB W N M gv s w) (ha : WL (Bs N M gv) w va a) (hb : WL (Bs N M gv) w vb b) (hwa : WsB a) (hwb : WsB b) (hl : a.length ≤ b.length) (hn : b.length ≤ 100000) :
    Calls Tryz.prog 84 #[.pointer (some ⟨N, 0, none⟩), va, vb] w (RetS W N M gv (lessF s a b) w) := by
  obtain ⟨R, hR⟩ : ∃ R, R = lessF s a b := ⟨_, rfl⟩
  rw [← hR]
  obtain ⟨Q, hQ⟩ : ∃ Q, Q = RetS W N M gv R w := ⟨_, rfl⟩
  rw [← hQ]
  have HQ := Lib.hid hQ
  obtain ⟨c, hc⟩ : ∃ c, c = constF s true := ⟨_, rfl⟩
  have wc : BWf c.1 ∧ WB c.2 := by rw [hc]; exact constF_wf h.wf true
  have HN := Lib.hid (not_any b vb w hb.1 hwb hn)
  have HC : Hid (∀ w1, Ext w w1 → Calls Tryz.prog 102 #[.pointer (some ⟨N, 0, none⟩), .bool true] w1 (RetW W N M gv c w1)) := Lib.hid (fun w1 hx => by rw [hc]; exact const_any W w1 N M gv s true (h.next hx))
  have HS : Hid (∀ gv1 w1 v, GB W N M gv1 c.1 w1 → WL (Bs N M gv1) w1 va a → WL (Bs N M gv1) w1 v (b.map flip) → Calls Tryz.prog 82 #[.pointer (some ⟨N, 0, none⟩), va, v, .int .i64 (c.2 : Int)] w1 (RetS W N M gv1 R w1)) := Lib.hid (fun gv1 w1 v h1 h2 h3 => by
    have e : R = sumF c.1 a (b.map flip) c.2 := by rw [hR, hc]; rfl
    rw [e]; exact sum_any W w1 N M gv1 va v c.1 a (b.map flip) c.2 h1 h2 h3 hwa hwb.map wc.2 (by simpa using hl) (by omega))
  have H := Lib.hid (And.intro h ha)
  clear hQ h ha hb hwa hwb hl hn hR hc wc
  go_enter Tryz.func84, Tryz.ntmps84
  go_wp2_with (first | (go_at_call 80; refine HN.out.mono ?_; rintro e w1 ⟨p1, c1, rfl, H1⟩) | (go_at_call 102; refine (HC.out _ H1.out.ext).mono ?_; rintro e w2 ⟨rfl, gv2, hB2, hS2⟩; have H2 := Lib.hid (And.intro hB2 (And.intro hS2 ((H1.out.wl H.out.1.lts).step hS2))); clear hB2 hS2) | (go_at_call 82; refine (HS.out gv2 _ _ H2.out.1 ((H.out.2.ext H1.out.ext).step H2.out.2.1) H2.out.2.2).mono ?_; rintro e w3 ⟨p3, c3, gv3, rfl, H3⟩))
  rw [HQ.out]
  exact ⟨p3, c3, gv3, rfl, Lib.hid ⟨H3.out.1, ((Stp.of_ext H1.out.ext).trans H2.out.2.1).trans H3.out.2.1, H3.out.2.2⟩⟩
set_option maxHeartbeats 4000000 in
theorem neg_any (W w : World) (N M : Nat) (gv va : Value) (s : BSt) (a : List Nat) (h : GB W N M gv s w) (ha : WL (Bs N M gv) w va a) (hwa : WsB a) (hn : a.length ≤ 100000) :
    Calls Tryz.prog 81 #[.pointer (some ⟨N, 0, none⟩), va] w (RetL W N M gv (negF s a) w) := by
  obtain ⟨R, hR⟩ : ∃ R, R = negF s a := ⟨_, rfl⟩
  rw [← hR]
  obtain ⟨Q, hQ⟩ : ∃ Q, Q = RetL W N M gv R w := ⟨_, rfl⟩
  rw [← hQ]
  have HQ := Lib.hid hQ
  obtain ⟨z, hz⟩ : ∃ z, z = zeroF s := ⟨_, rfl⟩
  obtain ⟨c, hc⟩ : ∃ c, c = constF z.1 true := ⟨_, rfl⟩
  obtain ⟨t, ht⟩ : ∃ t, t = sumF c.1 (a.map flip) (List.replicate a.length z.2) c.2 := ⟨_, rfl⟩
  have hRt : R = (t.1, t.2.1) := by rw [hR, ht, hc, hz]; rfl
  have wz : BWf z.1 ∧ WB z.2 := by rw [hz]; exact zeroF_wf h.wf
  have wc : BWf c.1 ∧ WB c.2 := by rw [hc]; exact constF_wf wz.1 true
  obtain ⟨pa, ca, rfl, hna, hma, -⟩ := id ha.1
  have HN := Lib.hid (not_any a _ w ha.1 hwa hn)
  obtain ⟨n, hnl⟩ : ∃ n, n = a.length := ⟨_, rfl⟩
  have HZ : Hid (∀ w1, Ext w w1 → Calls Tryz.prog 83 #[.pointer (some ⟨N, 0, none⟩)] w1 (RetW W N M gv z w1)) := Lib.hid (fun w1 hx => by rw [hz]; exact zero_any W w1 N M gv s (h.next hx))
  have HF : Hid (∀ w1, Calls Tryz.prog 85 #[.int .i64 (n : Int), .int .i64 (z.2 : Int)] w1 fun e w' => ∃ a c, e = .returned (.slice a n c) ∧ Hid (RowF w1 w' (.slice a n c) (List.replicate n z.2))) := Lib.hid (fun w1 => fill_any n z.2 w1 (by omega))
  have HC : Hid (∀ gv1 w1, GB W N M gv1 z.1 w1 → Calls Tryz.prog 102 #[.pointer (some ⟨N, 0, none⟩), .bool true] w1 (RetW W N M gv1 c w1)) := Lib.hid (fun gv1 w1 h1 => by rw [hc]; exact const_any W w1 N M gv1 z.1 true h1)
  have HS : Hid (∀ gv1 w1 v u, GB W N M gv1 c.1 w1 → WL (Bs N M gv1) w1 v (a.map flip) → WL (Bs N M gv1) w1 u (List.replicate n z.2) → Calls Tryz.prog 82 #[.pointer (some ⟨N, 0, none⟩), v, u, .int .i64 (c.2 : Int)] w1 (RetS W N M gv1 t w1)) := Lib.hid (fun gv1 w1 v u h1 h2 h3 => by
    rw [hnl] at h3
    rw [ht]; exact sum_any W w1 N M gv1 v u c.1 _ _ c.2 h1 h2 h3 hwa.map (WsB.rep wz.2) wc.2 (by simp) (by simpa using hn))
  have H := Lib.hid (And.intro h (And.intro ha (And.intro hRt hnl)))
  rw [← hnl] at hna hn HN ⊢
  have hcI : (ca : Int) ≤ 9223372036854775807 := by unfold maxLen at hma; omega
  clear hQ h ha hwa hR hz hc ht hRt wz wc hnl hma
  go_enter Tryz.func81, Tryz.ntmps81
  go_wp2_with (first | (go_at_call 80; refine HN.out.mono ?_; rintro e w1 ⟨p1, c1, rfl, H1⟩) | (go_at_call 83; refine (HZ.out _ H1.out.ext).mono ?_; rintro e w2 ⟨rfl, gv2, hB2, hS2⟩; have H2 := Lib.hid (And.intro hB2 (And.intro hS2 ((H1.out.wl H.out.1.lts).step hS2))); clear hB2 hS2) | (go_at_call 85; refine (HF.out _).mono ?_; rintro e w3 ⟨p3, c3, rfl, H3⟩) | (go_at_call 102; refine (HC.out gv2 _ (H2.out.1.next H3.out.ext)).mono ?_; rintro e w4 ⟨rfl, gv4, hB4, hS4⟩; have H4 := Lib.hid (And.intro hB4 (And.intro hS4 (And.intro ((H2.out.2.2.ext H3.out.ext).step hS4) ((H3.out.wl H2.out.1.lts).step hS4)))); clear hB4 hS4) | (go_at_call 82; refine (HS.out gv4 _ _ _ H4.out.1 H4.out.2.2.1 H4.out.2.2.2).mono ?_; rintro e w5 ⟨p5, c5, gv5, rfl, H5⟩))
  rw [HQ.out, H.out.2.2.1]
  exact ⟨p5, c5, gv5, rfl, Lib.hid ⟨H5.out.1, ((((Stp.of_ext H1.out.ext).trans H2.out.2.1).trans (Stp.of_ext H3.out.ext)).trans H4.out.2.1).trans H5.out.2.1, H5.out.2.2⟩⟩
theorem anyG_step {s : BSt} {o : Nat} {l : List Nat} {k x : Nat} (hx : l[k]? = some x) : anyG s o (l.drop k) = anyG (orF s o x).1 (orF s o x).2 (l.drop (k + 1)) := by
  obtain ⟨h1, rfl⟩ := List.getElem?_eq_some_iff.1 hx
  rw [List.drop_eq_getElem_cons h1]
  rfl
set_option maxHeartbeats 4000000 in
theorem anyB_any (W w : World) (N M : Nat) (gv va : Value) (s : BSt) (a : List Nat) (h : GB W N M gv s w) (ha : WL (Bs N M gv) w va a) (hwa : WsB a) (hn : a.length ≤ 100000) :
    Calls Tryz.prog 97 #[.pointer (some ⟨N, 0, none⟩), va] w (RetW W N M gv (anyF s a) w) := by
  obtain ⟨R, hR⟩ : ∃ R, R = anyF s a := ⟨_, rfl⟩
  rw [← hR]
  obtain ⟨Q, hQ⟩ : ∃ Q, Q = RetW W N M gv R w := ⟨_, rfl⟩
  rw [← hQ]
  have HQ := Lib.hid hQ
  obtain ⟨pa, ca, rfl, hna, hma, -⟩ := id ha.1
  obtain ⟨n, hnl⟩ : ∃ n, n = a.length := ⟨_, rfl⟩
  obtain ⟨z, hz⟩ : ∃ z, z = zeroF s := ⟨_, rfl⟩
  have wz : BWf z.1 ∧ WB z.2 := by rw [hz]; exact zeroF_wf h.wf
  have HZ : Hid (Calls Tryz.prog 83 #[.pointer (some ⟨N, 0, none⟩)] w (RetW W N M gv z w)) := Lib.hid (by rw [hz]; exact zero_any W w N M gv s h)
  have HW := Lib.hid (And.intro h (And.intro ha (And.intro hwa (And.intro hnl (And.intro (show R = anyG z.1 z.2 a by rw [hR, hz]; rfl) wz)))))
  rw [← hnl] at hna hn ⊢
  have hcI : (ca : Int) ≤ 9223372036854775807 := by unfold maxLen at hma; omega
  clear hQ h ha hwa hnl hR hz wz hma
  go_enter Tryz.func97, Tryz.ntmps97
  go_wp2_with (go_at_call 83; refine HZ.out.mono ?_; rintro e w1 ⟨rfl, gv1, hB1, hS1⟩; have H1 := Lib.hid (And.intro hB1 hS1); clear hB1 hS1)
  go_loopw [5, 12] (fun u i wr => ∃ (k o : Nat) (gv' : Value) (s' : BSt), k ≤ n ∧ u = .int .i64 (o : Int) ∧ i = .int .i64 (k : Int) ∧ Hid (GB W N M gv' s' wr ∧ Stp N M gv gv' w wr ∧ WB o ∧ R = anyG s' o (a.drop k))) (fun _ i _ => n - (intOf i).toNat)
  case atStart => exact ⟨0, z.2, gv1, z.1, Nat.zero_le _, rfl, rfl, Lib.hid ⟨H1.out.1, H1.out.2, HW.out.2.2.2.2.2.2, HW.out.2.2.2.2.1⟩⟩
  case round =>
    obtain ⟨k, o, gv', s', hk, rfl, rfl, H⟩ := hrel
    by_cases hlt : k < n
    · have hki : (k : Int) < (n : Int) := Int.ofNat_lt.2 hlt
      obtain ⟨x, hx⟩ : ∃ x, a[k]? = some x := ⟨_, List.getElem?_eq_getElem (by have := HW.out.2.2.2.1; omega)⟩
      obtain ⟨b0, o0, rfl, hcx, hbx, hnx⟩ := HW.out.2.1.get hx
      have hwx := HW.out.2.2.1 x (List.mem_of_getElem? hx)
      obtain ⟨r, hr⟩ : ∃ r, r = orF s' o x := ⟨_, rfl⟩
      have wr' : BWf r.1 ∧ WB r.2 := by rw [hr]; exact orF_wf H.out.1.wf H.out.2.2.1 hwx
      have HO : Hid (Calls Tryz.prog 94 #[.pointer (some ⟨N, 0, none⟩), .int .i64 (o : Int), .int .i64 (x : Int)] wr (RetW W N M gv' r wr)) := Lib.hid (by rw [hr]; exact or_any W wr N M gv' s' o x H.out.1 H.out.2.2.1 hwx)
      have HST : Hid (R = anyG r.1 r.2 (a.drop (k + 1)) ∧ WB r.2) := Lib.hid ⟨by rw [H.out.2.2.2, anyG_step hx, hr], wr'.2⟩
      have hc2 := H.out.2.1.kb.cell hnx hcx
      have hmc : k < ca := by omega
      clear hx hwx hr hcx hnx wr'
      go_wp2_with (go_at_call 94; refine HO.out.mono ?_; rintro e w2 ⟨rfl, gv2, hB2, hS2⟩; have H2 := Lib.hid (And.intro hB2 hS2); clear hB2 hS2)
      exact ⟨⟨k + 1, r.2, gv2, r.1, by omega, rfl, by go_num, Lib.hid ⟨H2.out.1, H.out.2.1.trans H2.out.2, HST.out.2, HST.out.1⟩⟩, by simp [intOf]; omega⟩
    · have hki : ¬ (k : Int) < (n : Int) := fun e => hlt (Int.ofNat_lt.1 e)
      obtain rfl : k = n := by omega
      have hd : a.drop k = [] := List.drop_eq_nil_iff.2 (by have := HW.out.2.2.2.1; omega)
      have HE : Hid (R = (s', o)) := Lib.hid (by rw [H.out.2.2.2, hd]; rfl)
      clear hd
      go_wp2
      rw [HQ.out, HE.out]
      exact ⟨rfl, gv', H.out.1, H.out.2.1⟩
set_option maxHeartbeats 4000000 in
theorem inputsB_any (W w : World) (N M : Nat) (gv : Value) (s : BSt) (n : Nat) (h : GB W N M gv s w) (hn : n ≤ 100000) :
    Calls Tryz.prog 25 #[.pointer (some ⟨N, 0, none⟩), .int .i64 (n : Int)] w (RetL W N M gv (inputsF n s) w) := by
  obtain ⟨R, hR⟩ : ∃ R, R = inputsF n s := ⟨_, rfl⟩
  rw [← hR]
  obtain ⟨Q, hQ⟩ : ∃ Q, Q = RetL W N M gv R w := ⟨_, rfl⟩
  rw [← hQ]
  have HQ := Lib.hid hQ
  have HW := Lib.hid (And.intro h hR)
  clear hQ h hR
  go_enter Tryz.func25, Tryz.ntmps25
  go_wp2
  go_loopw [5, 7] (fun v i wr => ∃ (k m c : Nat) (p : Option Addr) (gv' : Value) (s' : BSt) (l : List Nat), k + m = n ∧ i = .int .i64 (k : Int) ∧ v = .slice p k c ∧ Hid (EB W N M gv w gv' s' (.slice p k c) l wr) ∧ Hid (l.length = k ∧ R.1 = (inputsF m s').1 ∧ R.2 = l ++ (inputsF m s').2)) (fun _ i _ => n - (intOf i).toNat)
  case atStart => exact ⟨0, n, 0, none, gv, s, [], by omega, rfl, rfl, Lib.hid (EB.start HW.out.1), Lib.hid ⟨rfl, by rw [HW.out.2], by rw [HW.out.2]; rfl⟩⟩
  case round =>
    obtain ⟨k, m, c, p, gv', s', l, hk, rfl, rfl, H, HR⟩ := hrel
    cases m with
    | succ m =>
      have hki : (k : Int) < (n : Int) := by omega
      obtain ⟨r, hr⟩ : ∃ r, r = inputF s' := ⟨_, rfl⟩
      have HI : Hid (Calls Tryz.prog 36 #[.pointer (some ⟨N, 0, none⟩)] wr (RetW W N M gv' r wr)) := Lib.hid (by rw [hr]; exact input_any W wr N M gv' s' H.out.gb)
      have HST : Hid (inputsF (m + 1) s' = ((inputsF m r.1).1, r.2 :: (inputsF m r.1).2)) := Lib.hid (by rw [hr]; rfl)
      clear hr
      go_wp2_with (first | (go_at_call 36; refine HI.out.mono ?_; rintro e w1 ⟨rfl, gv1, hB1, hS1⟩; have HE1 := Lib.hid ((H.out.call hB1 hS1).next ((Ext.refl w1).alloc (.cells #[.int .i64 (r.2 : Int)] 3))); clear hB1 hS1) | (at_builtin; (refine wpList_append_slc _ rfl (.tmp 9) (.tmp 12) 29 rfl w.heap.size 3 (.int .i64 0) 1 8 Tryz.underlying29 infoInt rfl (by decide) (.slice p k c) k (wvs l) rfl (by have := HE1.out.own; rw [HR.out.1] at this; exact this) _ 1 [.int .i64 (r.2 : Int)] rfl (SlC.fresh _ #[.int .i64 (r.2 : Int)] _ 1 _ (by simp) (by decide)) rfl (by simp [Value.oneCell']) (by unfold maxLen; omega) (by omega) HE1.out.st.kb.size ?_; intro v9 w9 hown9 hg9 hat9; obtain ⟨x9, y9, z9, rfl⟩ := own_slice3 hown9; have HE3 := Lib.hid (HE1.out.app (x := r.2) hg9 (by rw [HR.out.1]; exact hown9) hat9); clear hown9 hg9 hat9)))
      have hy : y9 = k + 1 := by
        obtain ⟨a', c', e, -⟩ := SlC.of_owns HE3.out.own
        simp at e
        have := HR.out.1
        omega
      subst hy
      refine ⟨⟨k + 1, m, z9, x9, gv1, r.1, l ++ [r.2], by omega, by go_num, rfl, HE3, Lib.hid ⟨by have := HR.out.1; simp; omega, ?_, ?_⟩⟩, by simp [intOf]; omega⟩
      · have h1 := HR.out.2.1
        rw [HST.out] at h1
        exact h1
      · have h1 := HR.out.2.2
        rw [HST.out] at h1
        rw [h1]; simp
    | zero =>
      have hki : ¬ (k : Int) < (n : Int) := by omega
      go_wp2
      rw [HQ.out]
      have hf := HR.out
      have e2 : R.1 = s' := hf.2.1
      have e3 : R.2 = l := hf.2.2.trans (List.append_nil l)
      refine ⟨p, c, gv', ?_, Lib.hid ⟨by rw [e2]; exact H.out.gb, H.out.st, ?_⟩⟩
      · rw [e3, hf.1]
      · rw [e3, hf.1]; exact H.out.done
end Go.Proofs.YtdjnekcpeaadhaaGreat

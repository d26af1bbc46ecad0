/-
  The maker's walks: a number without its sign, masks.
  Condition: the maker and the lists lie in memory.
  The maker's walks: moves.
  Condition: the maker and the lists lie in memory.
  The maker's walks: shifts.
  Condition: the maker and the lists lie in memory.
  The maker's walks: products.
  Condition: the maker and the lists lie in memory.
  The maker's walks: a new maker, kinds with a sign.
  No condition.
-/
import Derived.Test.YtdjnekcpeaadhaaGreatJtF
namespace Go.Proofs.YtdjnekcpeaadhaaGreat
open Go.RowKit Go.Maps
set_option linter.unusedSimpArgs false
set_option linter.unusedVariables false
set_option maxRecDepth 100000

set_option maxHeartbeats 8000000 in
theorem vsizeU_any (W w : World) (N M : Nat) (gv va vb : Value) (s : BSt) (a b : List Nat) (vx : Value) (x : List Nat) (h : GB W N M gv s w) (ha : WL (Bs N M gv) w va a) (hb : WL (Bs N M gv) w vb b) (hwa : WsB a) (hwb : WsB b) (hn : a.length ≤ 10000) (hx : WL (Bs N M gv) w vx x) (hwx : WsB x) (hnx : x.length ≤ 10000) :
    Calls Tryz.prog 89 #[.agg #[.pointer (some ⟨N, 0, none⟩), va, vb, .bool false], vx] w (RetL W N M gv (sizeF false s x) w) := by
  obtain ⟨R, hR⟩ : ∃ R, R = sizeF false s x := ⟨_, rfl⟩
  rw [← hR]
  obtain ⟨Q, hQ⟩ : ∃ Q, Q = RetL W N M gv R w := ⟨_, rfl⟩
  rw [← hQ]
  have HQ := Lib.hid hQ
  have HV1 := Lib.hid (VB.start (sg := false) h ha hb)
  have hmf := mf_run
  obtain ⟨px, cx, rfl, -, -, -⟩ := id hx.1
  have HR := Lib.hid hR
  have HX := Lib.hid hx
  clear hx
  obtain ⟨X, hX⟩ : ∃ X, X = w.heap.size := ⟨_, rfl⟩
  rw [← hX] at HV1
  clear hQ h ha hb hwa hwb hR
  go_enter Tryz.func89, Tryz.ntmps89
  go_upto_region 1 with fail
  rw [← hX]
  clear hX
  generalize w.alloc (.cells #[.pointer (some ⟨N, 0, none⟩), va, vb, .bool false] 71) = w1 at HV1 ⊢
  obtain ⟨p0, p1, p2, p3⟩ := HV1.out.bx
  have hlX := HV1.out.xl
  go_wp2
  rw [HQ.out, HR.out]
  exact ⟨px, cx, gv, rfl, Lib.hid ⟨HV1.out.gb, HV1.out.st, HX.out.step HV1.out.st⟩⟩
set_option maxHeartbeats 8000000 in
theorem vsizeS_any (W w : World) (N M : Nat) (gv va vb : Value) (s : BSt) (a b : List Nat) (vx : Value) (x : List Nat) (h : GB W N M gv s w) (ha : WL (Bs N M gv) w va a) (hb : WL (Bs N M gv) w vb b) (hwa : WsB a) (hwb : WsB b) (hn : a.length ≤ 10000) (hx : WL (Bs N M gv) w vx x) (hwx : WsB x) (hnx : x.length ≤ 10000) (hx0 : 0 < x.length) :
    Calls Tryz.prog 89 #[.agg #[.pointer (some ⟨N, 0, none⟩), va, vb, .bool true], vx] w (RetL W N M gv (sizeF true s x) w) := by
  obtain ⟨R, hR⟩ : ∃ R, R = sizeF true s x := ⟨_, rfl⟩
  rw [← hR]
  obtain ⟨Q, hQ⟩ : ∃ Q, Q = RetL W N M gv R w := ⟨_, rfl⟩
  rw [← hQ]
  have HQ := Lib.hid hQ
  have HV1 := Lib.hid (VB.start (sg := true) h ha hb)
  have hmf := mf_run
  obtain ⟨t, ht⟩ : ∃ t, t = topF x := ⟨_, rfl⟩
  obtain ⟨n, hn'⟩ : ∃ n, n = negF s x := ⟨_, rfl⟩
  have wn : BWf n.1 ∧ WsB n.2 ∧ n.2.length = x.length := by rw [hn']; exact negF_wf h.wf hwx
  have wt : WB t := by rw [ht]; exact hwx.getD _
  have HR : Hid (R = chooseF n.1 t n.2 x) := Lib.hid (by rw [hR, ht, hn']; rfl)
  have HX := Lib.hid hx
  have HT : Hid (∀ w1, SlC w1 vx x.length (wvs x) → Calls Tryz.prog 92 #[vx] w1 fun e w' => e = .returned (.int .i64 (t : Int)) ∧ w' = w1) := Lib.hid (fun w1 h1 => by rw [ht]; exact top_any x vx w1 h1 hx0 (by omega))
  have HN : Hid (∀ gv1 w1, GB W N M gv1 s w1 → WL (Bs N M gv1) w1 vx x → Calls Tryz.prog 81 #[.pointer (some ⟨N, 0, none⟩), vx] w1 (RetL W N M gv1 n w1)) := Lib.hid (fun gv1 w1 h1 h2 => by rw [hn']; exact neg_any W w1 N M gv1 vx s x h1 h2 hwx (by omega))
  have HC : Hid (∀ gv1 w1 v, GB W N M gv1 n.1 w1 → WL (Bs N M gv1) w1 v n.2 → WL (Bs N M gv1) w1 vx x → Calls Tryz.prog 90 #[.pointer (some ⟨N, 0, none⟩), .int .i64 (t : Int), v, vx] w1 (RetL W N M gv1 R w1)) := Lib.hid (fun gv1 w1 v h1 h2 h3 => by rw [HR.out]; exact choose_any W w1 N M gv1 v vx n.1 t n.2 x h1 wt h2 h3 wn.2.1 hwx (by omega) (by omega))
  clear ht hn' wn wt hx hwx hx0 hnx
  obtain ⟨X, hX⟩ : ∃ X, X = w.heap.size := ⟨_, rfl⟩
  rw [← hX] at HV1
  clear hQ h ha hb hwa hwb hR
  go_enter Tryz.func89, Tryz.ntmps89
  go_upto_region 1 with fail
  rw [← hX]
  clear hX
  generalize w.alloc (.cells #[.pointer (some ⟨N, 0, none⟩), va, vb, .bool true] 71) = w1 at HV1 ⊢
  obtain ⟨p0, p1, p2, p3⟩ := HV1.out.bx
  have hlX := HV1.out.xl
  go_upto_region 3 with fail
  go_region_held3 (fun w' => w'.cell? ⟨X, 0, none⟩ = some (.pointer (some ⟨N, 0, none⟩)) ∧ w'.cell? ⟨X, 1, none⟩ = some va ∧ w'.cell? ⟨X, 2, none⟩ = some vb ∧ w'.cell? ⟨X, 3, none⟩ = some (.bool true))
    (first | exact ⟨p0, p1, p2, p3⟩ | exact HV2.out.bx | exact HV3.out.bx | exact HV4.out.bx)
    (first | (go_at_call 92; refine (HT.out _ (HX.out.step (HV1.out.next (Ext.refl w1).drew).st).1).mono ?_; rintro e w2 ⟨rfl, hw2⟩; have HV2 : Hid (VB W N M gv w X va vb true a b gv s w2) := Lib.hid (hw2 ▸ HV1.out.next (Ext.refl w1).drew); clear hw2) | (go_at_call 81; refine (HN.out gv _ HV2.out.gb (HX.out.step HV2.out.st)).mono ?_; rintro e w3 ⟨q3, c3, gv3, rfl, H3⟩; have HV3 := Lib.hid (HV2.out.call H3.out.1 H3.out.2.1)) | (go_at_call 90; refine (HC.out gv3 _ _ HV3.out.gb H3.out.2.2 (HX.out.step HV3.out.st)).mono ?_; rintro e w4 ⟨q4, c4, gv4, rfl, H4⟩; have HV4 := Lib.hid (HV3.out.call H4.out.1 H4.out.2.1)))
  go_wp2
  rw [HQ.out]
  exact ⟨q4, c4, gv4, rfl, Lib.hid ⟨HV4.out.gb, HV4.out.st, H4.out.2.2⟩⟩
theorem vsize_any (W w : World) (N M : Nat) (gv va vb vx : Value) (sg : Bool) (s : BSt) (a b x : List Nat) (h : GB W N M gv s w) (ha : WL (Bs N M gv) w va a) (hb : WL (Bs N M gv) w vb b) (hwa : WsB a) (hwb : WsB b) (hn : a.length ≤ 10000) (hx : WL (Bs N M gv) w vx x) (hwx : WsB x) (hnx : x.length ≤ 10000) (hx0 : 0 < x.length) :
    Calls Tryz.prog 89 #[.agg #[.pointer (some ⟨N, 0, none⟩), va, vb, .bool sg], vx] w (RetL W N M gv (sizeF sg s x) w) := by
  cases sg
  · exact vsizeU_any W w N M gv va vb s a b vx x h ha hb hwa hwb hn hx hwx hnx
  · exact vsizeS_any W w N M gv va vb s a b vx x h ha hb hwa hwb hn hx hwx hnx hx0
set_option maxHeartbeats 8000000 in
theorem vmask_any (W w : World) (N M : Nat) (gv va vb : Value) (sg : Bool) (s : BSt) (a b : List Nat) (vx : Value) (x : List Nat) (h : GB W N M gv s w) (ha : WL (Bs N M gv) w va a) (hb : WL (Bs N M gv) w vb b) (hwa : WsB a) (hwb : WsB b) (hn : a.length ≤ 10000) (hx : WL (Bs N M gv) w vx x) (hwx : WsB x) (hnx : x.length ≤ 10000) (hnb : b.length ≤ 10000) :
    Calls Tryz.prog 93 #[.agg #[.pointer (some ⟨N, 0, none⟩), va, vb, .bool sg], vx] w (RetL W N M gv (maskF s x b) w) := by
  obtain ⟨R, hR⟩ : ∃ R, R = maskF s x b := ⟨_, rfl⟩
  rw [← hR]
  obtain ⟨Q, hQ⟩ : ∃ Q, Q = RetL W N M gv R w := ⟨_, rfl⟩
  rw [← hQ]
  have HQ := Lib.hid hQ
  have HV1 := Lib.hid (VB.start (sg := sg) h ha hb)
  have hmf := mf_run
  obtain ⟨px, cx, rfl, hxc, hxm, -⟩ := id hx.1
  obtain ⟨y, hy⟩ : ∃ y, y = anyF s b := ⟨_, rfl⟩
  have wy : BWf y.1 ∧ WB y.2 := by rw [hy]; exact anyF_wf h.wf hwb
  obtain ⟨n, hnn⟩ : ∃ n, n = x.length := ⟨_, rfl⟩
  have HR : Hid (R = eachF andF y.1 x (List.replicate n y.2)) := Lib.hid (by rw [hR, hy, hnn]; rfl)
  have HX := Lib.hid hx
  have HA : Hid (∀ gv1 w1, GB W N M gv1 s w1 → WL (Bs N M gv1) w1 vb b → Calls Tryz.prog 97 #[.pointer (some ⟨N, 0, none⟩), vb] w1 (RetW W N M gv1 y w1)) := Lib.hid (fun gv1 w1 h1 h2 => by rw [hy]; exact anyB_any W w1 N M gv1 vb s b h1 h2 hwb (by omega))
  have HF : Hid (∀ w1, Calls Tryz.prog 85 #[.int .i64 (n : Int), .int .i64 (y.2 : Int)] w1 fun e w' => ∃ p c, e = .returned (.slice p n c) ∧ Hid (RowF w1 w' (.slice p n c) (List.replicate n y.2))) := Lib.hid (fun w1 => fill_any n y.2 w1 (by omega))
  have HC : Hid (∀ gv1 w1 v, GB W N M gv1 y.1 w1 → WL (Bs N M gv1) w1 (.slice px n cx) x → WL (Bs N M gv1) w1 v (List.replicate n y.2) → Calls Tryz.prog 86 #[.slice px n cx, v, .func (.func 87) #[.pointer (some ⟨N, 0, none⟩)] #[]] w1 (RetL W N M gv1 R w1)) := Lib.hid (fun gv1 w1 v h1 h2 h3 => by rw [HR.out]; exact eachAnd_any W w1 N M gv1 _ v y.1 x _ h1 h2 h3 hwx (WsB.rep wy.2) (by simp; omega) (by omega))
  rw [← hnn] at HX hxc ⊢
  have hcI : (cx : Int) ≤ 9223372036854775807 := by unfold maxLen at hxm; omega
  clear hy hnn wy hx hwx hnx hxm
  obtain ⟨X, hX⟩ : ∃ X, X = w.heap.size := ⟨_, rfl⟩
  rw [← hX] at HV1
  clear hQ h ha hb hwa hwb hR
  go_enter Tryz.func93, Tryz.ntmps93
  go_upto_region 1 with fail
  rw [← hX]
  clear hX
  generalize w.alloc (.cells #[.pointer (some ⟨N, 0, none⟩), va, vb, .bool sg] 71) = w1 at HV1 ⊢
  obtain ⟨p0, p1, p2, p3⟩ := HV1.out.bx
  have hlX := HV1.out.xl
  go_region_held3 (fun w' => w'.cell? ⟨X, 0, none⟩ = some (.pointer (some ⟨N, 0, none⟩)) ∧ w'.cell? ⟨X, 1, none⟩ = some va ∧ w'.cell? ⟨X, 2, none⟩ = some vb ∧ w'.cell? ⟨X, 3, none⟩ = some (.bool sg))
    (first | exact ⟨p0, p1, p2, p3⟩ | exact HV2.out.bx | exact HV3.out.bx | exact HV4.out.bx)
    (first | (go_at_call 97; refine (HA.out gv _ (HV1.out.next (Ext.refl w1).drew).gb (HV1.out.next (Ext.refl w1).drew).lb).mono ?_; rintro e w2 ⟨rfl, gv2, hB2, hS2⟩; have HV2 := Lib.hid ((HV1.out.next (Ext.refl w1).drew).call hB2 hS2); clear hB2 hS2) | (go_at_call 85; refine (HF.out _).mono ?_; rintro e w3 ⟨q3, c3, rfl, H3⟩; have HV3 := Lib.hid (HV2.out.next H3.out.ext)) | (go_at_call 86; refine (HC.out gv2 _ _ HV3.out.gb (HX.out.step HV3.out.st) (H3.out.wl HV2.out.gb.lts)).mono ?_; rintro e w4 ⟨q4, c4, gv4, rfl, H4⟩; have HV4 := Lib.hid (HV3.out.call H4.out.1 H4.out.2.1)))
  all_goals go_wp2
  all_goals rw [HQ.out]
  all_goals exact ⟨q4, c4, gv4, rfl, Lib.hid ⟨HV4.out.gb, HV4.out.st, H4.out.2.2⟩⟩
end Go.Proofs.YtdjnekcpeaadhaaGreat
namespace Go.Proofs.YtdjnekcpeaadhaaGreat
open Go.RowKit Go.Maps
set_option linter.unusedSimpArgs false
set_option linter.unusedVariables false
set_option maxRecDepth 100000

theorem RowF.apps {W wr w9 : World} {v v9 : Value} {l m : List Nat} (h : RowF W wr v l) (hg : wr.grownBy w9 v.ownBlock) (hown : w9.ownsRow W.heap.size 3 1 v9 (l.length + m.length) (wvs l ++ wvs m)) : RowF W w9 v9 (l ++ m) := by
  have hk : Kb v.ownBlock.toList wr w9 := Kb.grown hg (fun g hg => Option.mem_toList.2 hg)
  refine ⟨hk.ext h.ext (fun b hb => (h.own.lt b (Option.mem_toList.1 hb)).1), ?_⟩
  rw [wvs_append, List.length_append]
  exact hown
theorem WL.drop {bs : List Nat} {w : World} {b o n c : Nat} {l : List Nat} (h : WL bs w (.slice (some ⟨b, o, none⟩) n c) l) (k : Nat) (hk : k ≤ n) (hn : n = l.length) : WL bs w (.slice (some ⟨b, o + k, none⟩) (n - k) (c - k)) (l.drop k) := by
  obtain ⟨⟨a, cap, e, h1, h2, h3⟩, h4⟩ := h
  simp only [Value.slice.injEq] at e
  obtain ⟨rfl, -, rfl⟩ := e
  refine ⟨⟨_, c - k, by rw [List.length_drop, hn], by rw [List.length_drop]; omega, by omega, fun j u hu => ?_⟩, fun e b' hb' hv => ?_⟩
  · have hu' : (wvs l)[k + j]? = some u := by
      have : wvs (l.drop k) = (wvs l).drop k := by simp [wvs, List.map_drop]
      rw [this, List.getElem?_drop] at hu
      exact hu
    obtain ⟨b', o', e1, hc⟩ := h3 (k + j) u hu'
    simp only [Option.some.injEq, Addr.mk.injEq] at e1
    obtain ⟨rfl, rfl, -⟩ := e1
    exact ⟨b, o + k, rfl, by rw [Nat.add_assoc]; exact hc⟩
  · exact h4 (by rintro rfl; simp at e) b' hb' (by simpa [Value.ownBlock] using hv)
theorem pow_facts {k n : Nat} (h : 2 ^ k < n) (hn : n ≤ 64) : k < 6 ∧ k + 1 ≤ 2 ^ k := by
  have h1 : k < 2 ^ k := Nat.lt_two_pow_self
  refine ⟨?_, h1⟩
  rcases Nat.lt_or_ge k 6 with h2 | h2
  · exact h2
  · have := Nat.pow_le_pow_right (n := 2) (by omega) h2
    omega
theorem wrap_pow {k : Nat} (h : k ≤ 7) : wrap64 (2 ^ k) = ((2 ^ k : Nat) : Int) := by
  have h1 : (2 : Nat) ^ k ≤ 2 ^ 7 := Nat.pow_le_pow_right (by omega) h
  have h2 : ((2 : Int) ^ k) = ((2 ^ k : Nat) : Int) := by simp
  rw [h2]
  exact nat64 (cap := 2 ^ k) (Nat.le_refl _) (by unfold maxLen; omega)
set_option maxHeartbeats 8000000 in
theorem vmoved_any (W w : World) (N M : Nat) (gv va vb : Value) (sg : Bool) (s : BSt) (a b : List Nat) (vx : Value) (x : List Nat) (inn : Nat) (h : GB W N M gv s w) (ha : WL (Bs N M gv) w va a) (hb : WL (Bs N M gv) w vb b) (hwa : WsB a) (hwb : WsB b) (hn : a.length ≤ 10000) (hx : WL (Bs N M gv) w vx x) (hwx : WsB x) (hnx : x.length ≤ 64) (hwi : WB inn) (hbl : b.length = x.length) (hx0 : 0 < x.length) :
    Calls Tryz.prog 95 #[.agg #[.pointer (some ⟨N, 0, none⟩), va, vb, .bool sg], vx, .int .i64 (inn : Int)] w (RetL W N M gv (movF s x b inn) w) := by
  obtain ⟨R, hR⟩ : ∃ R, R = movF s x b inn := ⟨_, rfl⟩
  rw [← hR]
  obtain ⟨Q, hQ⟩ : ∃ Q, Q = RetL W N M gv R w := ⟨_, rfl⟩
  rw [← hQ]
  have HQ := Lib.hid hQ
  have HV1 := Lib.hid (VB.start (sg := sg) h ha hb)
  have hmf := mf_run
  obtain ⟨px, cx, rfl, hxc, hxm, -⟩ := id hx.1
  obtain ⟨y0, hy0⟩ : ∃ y, b[0]? = some y := ⟨_, List.getElem?_eq_getElem (by omega)⟩
  obtain ⟨pb, cb, rfl, hbc, hbm, -⟩ := id hb.1
  obtain ⟨b1, o1, rfl, -, -, -⟩ := hb.get hy0
  have HB0 := Lib.hid hb
  obtain ⟨n, hnn⟩ : ∃ n, n = x.length := ⟨_, rfl⟩
  have HX := Lib.hid (And.intro hx (And.intro hR (And.intro hwx (And.intro hwb (And.intro hwi (And.intro hbl hnn))))))
  rw [← hnn] at hxc hnx hx0 ⊢
  rw [hbl, ← hnn] at hbc HV1 ⊢
  have hcI : (cx : Int) ≤ 9223372036854775807 := by unfold maxLen at hxm; omega
  have hcJ : (cb : Int) ≤ 9223372036854775807 := by unfold maxLen at hbm; omega
  clear hx hwx hxm hwi hbl hnn hbm hy0
  obtain ⟨X, hX⟩ : ∃ X, X = w.heap.size := ⟨_, rfl⟩
  rw [← hX] at HV1
  clear hQ h ha hb hwa hwb hR
  go_enter Tryz.func95, Tryz.ntmps95
  go_upto_region 1 with fail
  rw [← hX]
  clear hX
  generalize w.alloc (.cells #[.pointer (some ⟨N, 0, none⟩), va, (.slice (some ⟨b1, o1, none⟩) n cb), .bool sg] 71) = w1 at HV1 ⊢
  obtain ⟨p0, p1, p2, p3⟩ := HV1.out.bx
  have hlX := HV1.out.xl
  go_wp2
  go_loopw [1, 8] (fun u i wr => ∃ (k m c : Nat) (p : Option Addr) (l : List Nat) (gv' : Value) (s' : BSt), k + m = 64 ∧ k ≤ 7 ∧ k < n ∧ n ≤ c ∧ c ≤ maxLen ∧ u = .slice p n c ∧ i = .int .i64 (k : Int) ∧ Hid (VB W N M gv w X va (.slice (some ⟨b1, o1, none⟩) n cb) sg a b gv' s' wr) ∧ Hid (WL (Bs N M gv') wr (.slice p n c) l ∧ WsB l ∧ l.length = n ∧ movG 64 s x b inn 0 = movG m s' l b inn k)) (fun _ i _ => 7 - (intOf i).toNat)
  case atStart => exact ⟨0, 64, cx, px, x, gv, s, by omega, by omega, by omega, hxc, by unfold maxLen; omega, rfl, rfl, HV1, Lib.hid ⟨by have := HX.out.1.step HV1.out.st; rw [← HX.out.2.2.2.2.2.2] at this; exact this, HX.out.2.2.1, HX.out.2.2.2.2.2.2.symm, rfl⟩⟩
  case round =>
    obtain ⟨k, m, c, p, l, gv', s', hkm, hk7, hkn, hnc, hcm, rfl, rfl, H, HL⟩ := hrel
    obtain ⟨D, hD⟩ : ∃ D, D = 2 ^ k := ⟨_, rfl⟩
    have hw := wrap_pow hk7
    rw [← hD] at hw
    have HWW := Lib.hid hw
    clear hw
    obtain ⟨z0, hz0⟩ : ∃ z, l[0]? = some z := ⟨_, List.getElem?_eq_getElem (by have := HL.out.2.2.1; omega)⟩
    obtain ⟨b3, o3, rfl, -, -, -⟩ := HL.out.1.get hz0
    clear hz0
    have hcK : (c : Int) ≤ 9223372036854775807 := by unfold maxLen at hcm; omega
    obtain ⟨p0, p1, p2, p3⟩ := H.out.bx
    have hlX := H.out.xl
    by_cases hlt : D < n
    · have hDn : (D : Int) < (n : Int) := Int.ofNat_lt.2 hlt
      obtain ⟨E, hEE⟩ : ∃ E, E = n - D := ⟨_, rfl⟩
      have hpf := pow_facts (by rw [← hD]; exact hlt) hnx
      obtain ⟨y, hy⟩ : ∃ y, b[k]? = some y := ⟨_, List.getElem?_eq_getElem (by have := HX.out.2.2.2.2.2.1; have := HX.out.2.2.2.2.2.2; omega)⟩
      obtain ⟨b2, o2, e2, hcy, hby, hny⟩ := HB0.out.get hy
      simp only [Option.some.injEq, Addr.mk.injEq] at e2
      obtain ⟨rfl, rfl, -⟩ := e2
      have hwy := HX.out.2.2.2.1 y (List.mem_of_getElem? hy)
      obtain ⟨r, hr⟩ : ∃ r, r = chooseF s' y (List.replicate D inn ++ l.take E) l := ⟨_, rfl⟩
      have hll := HL.out.2.2.1
      have hc0 : ¬ c = 0 := by omega
      have hc00 : 0 < c := by omega
      have wr' : BWf r.1 ∧ WsB r.2 ∧ r.2.length = n := by
        rw [hr]
        have h1 := chooseF_wf (c := y) H.out.gb.wf hwy ((WsB.rep (n := D) HX.out.2.2.2.2.1).append (HL.out.2.1.take E)) HL.out.2.1
        refine ⟨h1.1, h1.2.1, h1.2.2.trans ?_⟩
        simp; omega
      have HST : Hid (movG m s' l b inn k = movG (m - 1) r.1 r.2 b inn (k + 1) ∧ WsB r.2 ∧ r.2.length = n) := Lib.hid ⟨by
        obtain ⟨m', rfl⟩ : ∃ m', m = m' + 1 := ⟨m - 1, by omega⟩
        rw [Nat.add_sub_cancel]
        show (if 2 ^ k < l.length then _ else _) = _
        rw [if_pos (by rw [← hD, hll]; exact hlt)]
        have hm : movS s' l b inn k = r := by
          rw [hr]
          unfold movS
          rw [← hD, hll, ← hEE, List.getD_eq_getElem?_getD, hy]; rfl
        rw [hm], wr'.2⟩
      have HF : Hid (∀ w1, Calls Tryz.prog 85 #[.int .i64 (D : Int), .int .i64 (inn : Int)] w1 fun e w' => ∃ q c, e = .returned (.slice q D c) ∧ Hid (RowF w1 w' (.slice q D c) (List.replicate D inn))) := Lib.hid (fun w1 => fill_any D inn w1 (by omega))
      have HC : Hid (∀ w1 v, GB W N M gv' s' w1 → WL (Bs N M gv') w1 v (List.replicate D inn ++ l.take E) → WL (Bs N M gv') w1 (.slice (some ⟨b3, o3, none⟩) n c) l → Calls Tryz.prog 90 #[.pointer (some ⟨N, 0, none⟩), .int .i64 (y : Int), v, .slice (some ⟨b3, o3, none⟩) n c] w1 (RetL W N M gv' r w1)) := Lib.hid (fun w1 v h1 h2 h3 => by
        rw [hr]
        exact choose_any W w1 N M gv' v _ s' y _ l h1 hwy h2 h3 ((WsB.rep (n := D) HX.out.2.2.2.2.1).append (HL.out.2.1.take E)) HL.out.2.1 (by simp; omega) (by simp; omega))
      have HSL : Hid (∀ w1, Ext wr w1 → SlC w1 (.slice (some ⟨b3, o3, none⟩) E c) E (wvs (l.take E))) := Lib.hid (fun w1 hx => by
        have h1 := HL.out.1.1
        rw [hll] at h1
        rw [← wvs_take]
        exact (h1.ext hx).cut E c (by omega) (Nat.le_refl _))
      have HSS : Hid (∀ g1 s1 w1, VB W N M gv w X va (.slice (some ⟨b1, o1, none⟩) n cb) sg a b g1 s1 w1 → w1.cell? ⟨X, 0, none⟩ = some (.pointer (some ⟨N, 0, none⟩)) ∧ w1.cell? ⟨X, 2, none⟩ = some (.slice (some ⟨b1, o1, none⟩) n cb) ∧ w1.cell? ⟨b1, o1 + k, none⟩ = some (.int .i64 (y : Int))) := Lib.hid (fun g1 s1 w1 hv => ⟨hv.bx.1, hv.bx.2.2.1, hv.st.kb.cell hny hcy⟩)
      have hbl1 : b1 < wr.heap.size := Nat.lt_of_lt_of_le hby H.out.st.kb.size
      have hDD : (D : Int) ≤ (n : Int) := by omega
      have hE0 : (0 : Int) ≤ (E : Int) := by omega
      have hwE : IntKind.i64.wrap ((n : Int) - (D : Int)) = (E : Int) := (IntWalk.i64_in _ (by omega)).trans (by omega)
      have hDc : (E : Int) ≤ (c : Int) := by omega
      have hkcb : k < cb := by omega
      have hln : (wvs (l.take E)).length = E := by rw [wvs_len, List.length_take]; omega
      have hkD : k + 1 ≤ D := by rw [hD]; exact hpf.2
      have HDE := Lib.hid hEE
      clear hEE hD hy hwy hr wr' hll hny
      have hw := HWW.out
      go_upto_region 6 with fail
      rw [hw]
      clear hw
      have HV2 := Lib.hid (H.out.next (Ext.refl wr).drew)
      have hs2 := HSS.out _ _ _ H.out
      go_region_held3 (fun w' => w'.cell? ⟨X, 0, none⟩ = some (.pointer (some ⟨N, 0, none⟩)) ∧ w'.cell? ⟨X, 2, none⟩ = some (.slice (some ⟨b1, o1, none⟩) n cb) ∧ w'.cell? ⟨b1, o1 + k, none⟩ = some (.int .i64 (y : Int)))
        (first | exact hs2 | exact HSS.out _ _ _ HV3.out | exact HSS.out _ _ _ HV4.out | exact HSS.out _ _ _ HV5.out)
        (first | (go_at_call 85; refine (HF.out _).mono ?_; rintro e w3 ⟨q3, c3, rfl, H3⟩; have HV3 := Lib.hid (HV2.out.next H3.out.ext); have hE3 : Ext wr w3 := (Ext.refl wr).drew.trans H3.out.ext) | (refine step_append_slc _ rfl (.tmp 29) (.tmp 34) 29 rfl wr.drew.heap.size 3 (.int .i64 0) 1 8 Tryz.underlying29 infoInt rfl (by decide) (.slice q3 D c3) D (wvs (List.replicate D inn)) rfl (by have := H3.out.own; simp only [List.length_replicate] at this; exact this) _ E (wvs (l.take E)) rfl (HSL.out _ hE3) (by rw [hln, Nat.mul_one]) (fun u hu => by obtain ⟨z, -, rfl⟩ := List.mem_map.1 hu; rfl) (by have := HDE.out; unfold maxLen; omega) (by have := HDE.out; omega) H3.out.ext.size ?_; intro v4 w4 hown4 hg4 hat4; obtain ⟨x4, y4, z4, rfl⟩ := own_slice3 hown4; have HA4 := Lib.hid (RowF.apps (m := l.take E) H3.out hg4 (by simp only [List.length_replicate]; rw [wvs_len] at hln; rw [hln]; exact hown4)); have HV4 := Lib.hid (HV2.out.next HA4.out.ext); clear hown4 hg4 hat4) | (go_at_call 90; refine (HC.out w4 _ HV4.out.gb (HA4.out.wl HV2.out.gb.lts) ((HL.out.1.ext (Ext.refl wr).drew).ext HA4.out.ext)).mono ?_; rintro e w5 ⟨q5, c5, gv5, rfl, H5⟩; have HV5 := Lib.hid (HV4.out.call H5.out.1 H5.out.2.1)))
      rw [HST.out.2.2] at H5
      go_wp2
      obtain ⟨a5, cap5, e5, hc5, hm5, -⟩ := H5.out.2.2.1
      simp only [Value.slice.injEq] at e5
      rw [HST.out.2.2] at hc5
      refine ⟨⟨k + 1, m - 1, c5, q5, r.2, gv5, r.1, by omega, by omega, by omega, by omega, by omega, by rw [HST.out.2.2], by go_num, HV5, Lib.hid ⟨?_, HST.out.2.1, HST.out.2.2, HL.out.2.2.2.trans HST.out.1⟩⟩, by simp [intOf]; omega⟩
      have h9 := H5.out.2.2
      exact h9
    · have hge : (n : Int) ≤ (D : Int) := by omega
      have hge2 : ¬ (D : Int) < (n : Int) := by omega
      have hlD : ¬ 2 ^ k < l.length := by rw [← hD, HL.out.2.2.1]; exact hlt
      have hmG : movG m s' l b inn k = (s', l, k) := by
        cases m with
        | zero => rfl
        | succ m => exact if_neg hlD
      obtain ⟨y, hy⟩ : ∃ y, y = anyF s' (b.drop k) := ⟨_, rfl⟩
      have hwbd := HX.out.2.2.2.1.drop k
      have wy : BWf y.1 ∧ WB y.2 := by rw [hy]; exact anyF_wf H.out.gb.wf hwbd
      have HRR : Hid (R = chooseF y.1 y.2 (List.replicate n inn) l) := Lib.hid (by
        rw [HX.out.2.1]
        unfold movF
        rw [HL.out.2.2.2, hmG, hy, HX.out.2.2.2.2.2.2])
      have HA : Hid (∀ w1, GB W N M gv' s' w1 → WL (Bs N M gv') w1 (.slice (some ⟨b1, o1 + k, none⟩) (n - k) (cb - k)) (b.drop k) → Calls Tryz.prog 97 #[.pointer (some ⟨N, 0, none⟩), .slice (some ⟨b1, o1 + k, none⟩) (n - k) (cb - k)] w1 (RetW W N M gv' y w1)) := Lib.hid (fun w1 h1 h2 => by rw [hy]; exact anyB_any W w1 N M gv' _ s' (b.drop k) h1 h2 hwbd (by have := HX.out.2.2.2.2.2.1; have := HX.out.2.2.2.2.2.2; rw [List.length_drop]; omega))
      have HF : Hid (∀ w1, Calls Tryz.prog 85 #[.int .i64 (n : Int), .int .i64 (inn : Int)] w1 fun e w' => ∃ q c, e = .returned (.slice q n c) ∧ Hid (RowF w1 w' (.slice q n c) (List.replicate n inn))) := Lib.hid (fun w1 => fill_any n inn w1 (by omega))
      have HC : Hid (∀ gv1 w1 v, GB W N M gv1 y.1 w1 → WL (Bs N M gv1) w1 v (List.replicate n inn) → WL (Bs N M gv1) w1 (.slice (some ⟨b3, o3, none⟩) n c) l → Calls Tryz.prog 90 #[.pointer (some ⟨N, 0, none⟩), .int .i64 (y.2 : Int), v, .slice (some ⟨b3, o3, none⟩) n c] w1 (RetL W N M gv1 R w1)) := Lib.hid (fun gv1 w1 v h1 h2 h3 => by
        rw [HRR.out]
        exact choose_any W w1 N M gv1 v _ y.1 y.2 _ l h1 wy.2 h2 h3 (WsB.rep HX.out.2.2.2.2.1) HL.out.2.1 (by have := HL.out.2.2.1; simp; omega) (by simp; omega))
      have hkI : (k : Int) ≤ (n : Int) := by omega
      have hkc : ¬ cb = k := by omega
      have HN : Hid (n = b.length) := Lib.hid (by have := HX.out.2.2.2.2.2.1; have := HX.out.2.2.2.2.2.2; omega)
      clear hD hlD hmG hy hwbd wy hlt
      have hw := HWW.out
      go_upto_region 7 with fail
      rw [hw]
      clear hw
      have HV2 := Lib.hid (H.out.next (Ext.refl wr).drew)
      go_region_held3 (fun w' => w'.cell? ⟨X, 0, none⟩ = some (.pointer (some ⟨N, 0, none⟩)) ∧ w'.cell? ⟨X, 2, none⟩ = some (.slice (some ⟨b1, o1, none⟩) n cb))
        (first | exact ⟨p0, p2⟩ | exact ⟨HV3.out.bx.1, HV3.out.bx.2.2.1⟩ | exact ⟨HV4.out.bx.1, HV4.out.bx.2.2.1⟩ | exact ⟨HV5.out.bx.1, HV5.out.bx.2.2.1⟩)
        (first | (go_at_call 97; refine (HA.out _ HV2.out.gb (HV2.out.lb.drop k (by omega) HN.out)).mono ?_; rintro e w3 ⟨rfl, gv3, hB3, hS3⟩; have HV3 := Lib.hid (HV2.out.call hB3 hS3); have HL3 := Lib.hid ((HL.out.1.ext (Ext.refl wr).drew).step hS3); clear hB3 hS3) | (go_at_call 85; refine (HF.out _).mono ?_; rintro e w4 ⟨q4, c4, rfl, H4⟩; have HV4 := Lib.hid (HV3.out.next H4.out.ext)) | (go_at_call 90; refine (HC.out gv3 _ _ HV4.out.gb (H4.out.wl HV3.out.gb.lts) (HL3.out.ext H4.out.ext)).mono ?_; rintro e w5 ⟨q5, c5, gv5, rfl, H5⟩; have HV5 := Lib.hid (HV4.out.call H5.out.1 H5.out.2.1)))
      go_wp2
      rw [HQ.out]
      exact ⟨q5, c5, gv5, rfl, Lib.hid ⟨HV5.out.gb, HV5.out.st, H5.out.2.2⟩⟩
end Go.Proofs.YtdjnekcpeaadhaaGreat
namespace Go.Proofs.YtdjnekcpeaadhaaGreat
open Go.RowKit Go.Maps
set_option linter.unusedSimpArgs false
set_option linter.unusedVariables false
set_option maxRecDepth 100000

theorem movG_wf : ∀ (m : Nat) {s : BSt} {l b : List Nat} {inn k : Nat}, BWf s → WsB l → WsB b → WB inn → BWf (movG m s l b inn k).1 ∧ WsB (movG m s l b inn k).2.1 ∧ (movG m s l b inn k).2.1.length = l.length
  | 0, _, _, _, _, _, h, hl, _, _ => ⟨h, hl, rfl⟩
  | m + 1, s, l, b, inn, k, h, hl, hb, hi => by
    show BWf (if 2 ^ k < l.length then _ else _ : BSt × List Nat × Nat).1 ∧ WsB (if 2 ^ k < l.length then _ else _ : BSt × List Nat × Nat).2.1 ∧ (if 2 ^ k < l.length then _ else _ : BSt × List Nat × Nat).2.1.length = l.length
    split
    · rename_i hlt
      have h1 := chooseF_wf (c := b.getD k 0) h (hb.getD k) ((WsB.rep (n := 2 ^ k) hi).append (hl.take (l.length - 2 ^ k))) hl
      have h2 := movG_wf m (k := k + 1) h1.1 h1.2.1 hb hi
      refine ⟨h2.1, h2.2.1, h2.2.2.trans (h1.2.2.trans ?_)⟩
      simp; omega
    · exact ⟨h, hl, rfl⟩
theorem movF_wf {s : BSt} {l b : List Nat} {inn : Nat} (h : BWf s) (hl : WsB l) (hb : WsB b) (hi : WB inn) : BWf (movF s l b inn).1 ∧ WsB (movF s l b inn).2 ∧ (movF s l b inn).2.length = l.length := by
  have h1 := movG_wf 64 (k := 0) h hl hb hi
  have h2 := anyF_wf h1.1 (hb.drop (movG 64 s l b inn 0).2.2)
  have h3 := chooseF_wf h2.1 h2.2 (WsB.rep (n := l.length) hi) h1.2.1
  exact ⟨h3.1, h3.2.1, h3.2.2.trans (List.length_replicate ..)⟩
set_option maxHeartbeats 8000000 in
theorem vshl_any (W w : World) (N M : Nat) (gv va vb : Value) (sg : Bool) (s : BSt) (a b : List Nat) (h : GB W N M gv s w) (ha : WL (Bs N M gv) w va a) (hb : WL (Bs N M gv) w vb b) (hwa : WsB a) (hwb : WsB b) (hn : a.length ≤ 10000) (hl : b.length = a.length) (hna : a.length ≤ 64) (h0 : 0 < a.length) :
    Calls Tryz.prog 56 #[.agg #[.pointer (some ⟨N, 0, none⟩), va, vb, .bool sg]] w (RetL W N M gv (shlF s a b) w) := by
  obtain ⟨R, hR⟩ : ∃ R, R = shlF s a b := ⟨_, rfl⟩
  rw [← hR]
  obtain ⟨Q, hQ⟩ : ∃ Q, Q = RetL W N M gv R w := ⟨_, rfl⟩
  rw [← hQ]
  have HQ := Lib.hid hQ
  have HV1 := Lib.hid (VB.start (sg := sg) h ha hb)
  have hmf := mf_run
  obtain ⟨z, hz⟩ : ∃ z, z = zeroF s := ⟨_, rfl⟩
  have wz : BWf z.1 ∧ WB z.2 := by rw [hz]; exact zeroF_wf h.wf
  have HR : Hid (R = movF z.1 a b z.2) := Lib.hid (by rw [hR, hz]; rfl)
  have HZ : Hid (∀ gv1 w1, GB W N M gv1 s w1 → Calls Tryz.prog 83 #[.pointer (some ⟨N, 0, none⟩)] w1 (RetW W N M gv1 z w1)) := Lib.hid (fun gv1 w1 h1 => by rw [hz]; exact zero_any W w1 N M gv1 s h1)
  have HM : Hid (∀ gv1 w1, GB W N M gv1 z.1 w1 → WL (Bs N M gv1) w1 va a → WL (Bs N M gv1) w1 vb b → Calls Tryz.prog 95 #[.agg #[.pointer (some ⟨N, 0, none⟩), va, vb, .bool sg], va, .int .i64 (z.2 : Int)] w1 (RetL W N M gv1 R w1)) := Lib.hid (fun gv1 w1 h1 h2 h3 => by rw [HR.out]; exact vmoved_any W w1 N M gv1 va vb sg z.1 a b va a z.2 h1 h2 h3 hwa hwb hn h2 hwa hna wz.2 hl h0)
  clear hz wz
  obtain ⟨X, hX⟩ : ∃ X, X = w.heap.size := ⟨_, rfl⟩
  rw [← hX] at HV1
  clear hQ h ha hb hwa hwb hR hl
  go_enter Tryz.func56, Tryz.ntmps56
  go_upto_region 1 with fail
  rw [← hX]
  clear hX
  generalize w.alloc (.cells #[.pointer (some ⟨N, 0, none⟩), va, vb, .bool sg] 71) = w1 at HV1 ⊢
  obtain ⟨p0, p1, p2, p3⟩ := HV1.out.bx
  have hlX := HV1.out.xl
  go_region_held3 (fun w' => w'.cell? ⟨X, 0, none⟩ = some (.pointer (some ⟨N, 0, none⟩)) ∧ w'.cell? ⟨X, 1, none⟩ = some va ∧ w'.cell? ⟨X, 2, none⟩ = some vb ∧ w'.cell? ⟨X, 3, none⟩ = some (.bool sg))
    (first | exact ⟨p0, p1, p2, p3⟩ | exact HV2.out.bx | exact HV3.out.bx)
    (first | (go_at_call 83; refine (HZ.out gv _ (HV1.out.next (Ext.refl w1).drew).gb).mono ?_; rintro e w2 ⟨rfl, gv2, hB2, hS2⟩; have HV2 := Lib.hid ((HV1.out.next (Ext.refl w1).drew).call hB2 hS2); clear hB2 hS2) | (go_at_call 95; refine (HM.out gv2 _ HV2.out.gb HV2.out.la HV2.out.lb).mono ?_; rintro e w3 ⟨q3, c3, gv3, rfl, H3⟩; have HV3 := Lib.hid (HV2.out.call H3.out.1 H3.out.2.1)))
  go_wp2
  rw [HQ.out]
  exact ⟨q3, c3, gv3, rfl, Lib.hid ⟨HV3.out.gb, HV3.out.st, H3.out.2.2⟩⟩
set_option maxHeartbeats 8000000 in
theorem vshrU_any (W w : World) (N M : Nat) (gv va vb : Value) (s : BSt) (a b : List Nat) (h : GB W N M gv s w) (ha : WL (Bs N M gv) w va a) (hb : WL (Bs N M gv) w vb b) (hwa : WsB a) (hwb : WsB b) (hn : a.length ≤ 10000) (hl : b.length = a.length) (hna : a.length ≤ 64) (h0 : 0 < a.length) :
    Calls Tryz.prog 57 #[.agg #[.pointer (some ⟨N, 0, none⟩), va, vb, .bool false]] w (RetL W N M gv (shrF false s a b) w) := by
  obtain ⟨R, hR⟩ : ∃ R, R = shrF false s a b := ⟨_, rfl⟩
  rw [← hR]
  obtain ⟨Q, hQ⟩ : ∃ Q, Q = RetL W N M gv R w := ⟨_, rfl⟩
  rw [← hQ]
  have HQ := Lib.hid hQ
  have HV1 := Lib.hid (VB.start (sg := false) h ha hb)
  have hmf := mf_run
  obtain ⟨z, hz⟩ : ∃ z, z = zeroF s := ⟨_, rfl⟩
  have wz : BWf z.1 ∧ WB z.2 := by rw [hz]; exact zeroF_wf h.wf
  have wi : WB z.2 := wz.2
  obtain ⟨r, hr⟩ : ∃ r, r = movF z.1 a.reverse b z.2 := ⟨_, rfl⟩
  have wr : BWf r.1 ∧ WsB r.2 ∧ r.2.length = a.length := by
    have h9 := movF_wf wz.1 hwa.reverse hwb wi
    rw [← hr] at h9
    exact ⟨h9.1, h9.2.1, h9.2.2.trans (by simp)⟩
  have HR : Hid (R = (r.1, r.2.reverse)) := Lib.hid (by rw [hR, hr, hz]; rfl)
  have HRL : Hid (r.2.length = a.length) := Lib.hid wr.2.2
  have HT : Hid (∀ w1, SlC w1 va a.length (wvs a) → Calls Tryz.prog 92 #[va] w1 fun e w' => e = .returned (.int .i64 ((topF a : Nat) : Int)) ∧ w' = w1) := Lib.hid (fun w1 h1 => top_any a va w1 h1 h0 (by omega))
  have HTU : Hid (∀ w1, SlC w1 va a.length (wvs a) → Calls Tryz.prog 96 #[va] w1 fun e w' => ∃ q c, e = .returned (.slice q a.length c) ∧ Hid (RowF w1 w' (.slice q a.length c) a.reverse)) := Lib.hid (fun w1 h1 => turned_any a va w1 h1 (by omega))
  have HTR : Hid (∀ w1 v, SlC w1 v r.2.length (wvs r.2) → Calls Tryz.prog 96 #[v] w1 fun e w' => ∃ q c, e = .returned (.slice q r.2.length c) ∧ Hid (RowF w1 w' (.slice q r.2.length c) r.2.reverse)) := Lib.hid (fun w1 v h1 => turned_any r.2 v w1 h1 (by omega))
  have HZ : Hid (∀ gv1 w1, GB W N M gv1 s w1 → Calls Tryz.prog 83 #[.pointer (some ⟨N, 0, none⟩)] w1 (RetW W N M gv1 z w1)) := Lib.hid (fun gv1 w1 h1 => by rw [hz]; exact zero_any W w1 N M gv1 s h1)
  have HM : Hid (∀ gv1 w1 v, GB W N M gv1 z.1 w1 → WL (Bs N M gv1) w1 va a → WL (Bs N M gv1) w1 vb b → WL (Bs N M gv1) w1 v a.reverse → Calls Tryz.prog 95 #[.agg #[.pointer (some ⟨N, 0, none⟩), va, vb, .bool false], v, .int .i64 (z.2 : Int)] w1 (RetL W N M gv1 r w1)) := Lib.hid (fun gv1 w1 v h1 h2 h3 h4 => by rw [hr]; exact vmoved_any W w1 N M gv1 va vb false z.1 a b v a.reverse z.2 h1 h2 h3 hwa hwb hn h4 hwa.reverse (by simpa using hna) wi (by simpa using hl) (by simpa using h0))
  clear hz wz wi hr wr 
  obtain ⟨X, hX⟩ : ∃ X, X = w.heap.size := ⟨_, rfl⟩
  rw [← hX] at HV1
  clear hQ h ha hb hwa hwb hR hl
  go_enter Tryz.func57, Tryz.ntmps57
  go_upto_region 1 with fail
  rw [← hX]
  clear hX
  generalize w.alloc (.cells #[.pointer (some ⟨N, 0, none⟩), va, vb, .bool false] 71) = w1 at HV1 ⊢
  obtain ⟨p0, p1, p2, p3⟩ := HV1.out.bx
  have hlX := HV1.out.xl
  go_upto_region 2 with (go_at_call 83; refine (HZ.out gv _ HV1.out.gb).mono ?_; rintro e w2 ⟨rfl, gv2, hB2, hS2⟩; have HV2 := Lib.hid (HV1.out.call hB2 hS2); clear hB2 hS2)
  clear p0 p1 p2 p3 hlX
  obtain ⟨p0, p1, p2, p3⟩ := HV2.out.bx
  have hlX := HV2.out.xl
  go_upto_region 4 with fail
  go_region_held3 (fun w' => w'.cell? ⟨X, 0, none⟩ = some (.pointer (some ⟨N, 0, none⟩)) ∧ w'.cell? ⟨X, 1, none⟩ = some va ∧ w'.cell? ⟨X, 2, none⟩ = some vb ∧ w'.cell? ⟨X, 3, none⟩ = some (.bool false))
    (first | exact ⟨p0, p1, p2, p3⟩ | exact HV3.out.bx | exact HV4.out.bx | exact HV5.out.bx)
    (first | (go_at_call 95; refine (HM.out gv2 _ _ HV3.out.gb HV3.out.la HV3.out.lb HW3.out).mono ?_; rintro e w4 ⟨q4, c4, gv4, rfl, H4⟩; have HV4 := Lib.hid (HV3.out.call H4.out.1 H4.out.2.1)) | (go_at_call 96; first | (refine (HTR.out _ _ H4.out.2.2.1).mono ?_; rintro e w5 ⟨q5, c5, rfl, H5⟩; have HV5 := Lib.hid (HV4.out.next H5.out.ext)) | (refine (HTU.out _ (HV2.out.next (Ext.refl w2).drew).la.1).mono ?_; rintro e w3 ⟨q3, c3, rfl, H3⟩; have HV3 := Lib.hid ((HV2.out.next (Ext.refl w2).drew).next H3.out.ext); have HW3 := Lib.hid (show WL (Bs N M gv2) w3 (.slice q3 a.length c3) a.reverse from H3.out.wl (HV2.out.next (Ext.refl w2).drew).gb.lts))))
  go_wp2
  rw [HQ.out, HR.out]
  have e : ((r.1, r.2.reverse) : BL).2.length = r.2.length := by simp
  refine ⟨q5, c5, gv4, by rw [e]; rfl, Lib.hid ⟨HV5.out.gb, HV5.out.st, ?_⟩⟩
  rw [e]
  exact H5.out.wl HV4.out.gb.lts
set_option maxHeartbeats 8000000 in
theorem vshrS_any (W w : World) (N M : Nat) (gv va vb : Value) (s : BSt) (a b : List Nat) (h : GB W N M gv s w) (ha : WL (Bs N M gv) w va a) (hb : WL (Bs N M gv) w vb b) (hwa : WsB a) (hwb : WsB b) (hn : a.length ≤ 10000) (hl : b.length = a.length) (hna : a.length ≤ 64) (h0 : 0 < a.length) :
    Calls Tryz.prog 57 #[.agg #[.pointer (some ⟨N, 0, none⟩), va, vb, .bool true]] w (RetL W N M gv (shrF true s a b) w) := by
  obtain ⟨R, hR⟩ : ∃ R, R = shrF true s a b := ⟨_, rfl⟩
  rw [← hR]
  obtain ⟨Q, hQ⟩ : ∃ Q, Q = RetL W N M gv R w := ⟨_, rfl⟩
  rw [← hQ]
  have HQ := Lib.hid hQ
  have HV1 := Lib.hid (VB.start (sg := true) h ha hb)
  have hmf := mf_run
  obtain ⟨z, hz⟩ : ∃ z, z = zeroF s := ⟨_, rfl⟩
  have wz : BWf z.1 ∧ WB z.2 := by rw [hz]; exact zeroF_wf h.wf
  obtain ⟨inn, hin⟩ : ∃ i, i = topF a := ⟨_, rfl⟩
  have wi : WB inn := by rw [hin]; exact hwa.getD _
  obtain ⟨r, hr⟩ : ∃ r, r = movF z.1 a.reverse b inn := ⟨_, rfl⟩
  have wr : BWf r.1 ∧ WsB r.2 ∧ r.2.length = a.length := by
    have h9 := movF_wf wz.1 hwa.reverse hwb wi
    rw [← hr] at h9
    exact ⟨h9.1, h9.2.1, h9.2.2.trans (by simp)⟩
  have HR : Hid (R = (r.1, r.2.reverse)) := Lib.hid (by rw [hR, hr, hin, hz]; rfl)
  have HRL : Hid (r.2.length = a.length) := Lib.hid wr.2.2
  have HT : Hid (∀ w1, SlC w1 va a.length (wvs a) → Calls Tryz.prog 92 #[va] w1 fun e w' => e = .returned (.int .i64 (inn : Int)) ∧ w' = w1) := Lib.hid (fun w1 h1 => by rw [hin]; exact top_any a va w1 h1 h0 (by omega))
  have HTU : Hid (∀ w1, SlC w1 va a.length (wvs a) → Calls Tryz.prog 96 #[va] w1 fun e w' => ∃ q c, e = .returned (.slice q a.length c) ∧ Hid (RowF w1 w' (.slice q a.length c) a.reverse)) := Lib.hid (fun w1 h1 => turned_any a va w1 h1 (by omega))
  have HTR : Hid (∀ w1 v, SlC w1 v r.2.length (wvs r.2) → Calls Tryz.prog 96 #[v] w1 fun e w' => ∃ q c, e = .returned (.slice q r.2.length c) ∧ Hid (RowF w1 w' (.slice q r.2.length c) r.2.reverse)) := Lib.hid (fun w1 v h1 => turned_any r.2 v w1 h1 (by omega))
  have HZ : Hid (∀ gv1 w1, GB W N M gv1 s w1 → Calls Tryz.prog 83 #[.pointer (some ⟨N, 0, none⟩)] w1 (RetW W N M gv1 z w1)) := Lib.hid (fun gv1 w1 h1 => by rw [hz]; exact zero_any W w1 N M gv1 s h1)
  have HM : Hid (∀ gv1 w1 v, GB W N M gv1 z.1 w1 → WL (Bs N M gv1) w1 va a → WL (Bs N M gv1) w1 vb b → WL (Bs N M gv1) w1 v a.reverse → Calls Tryz.prog 95 #[.agg #[.pointer (some ⟨N, 0, none⟩), va, vb, .bool true], v, .int .i64 (inn : Int)] w1 (RetL W N M gv1 r w1)) := Lib.hid (fun gv1 w1 v h1 h2 h3 h4 => by rw [hr]; exact vmoved_any W w1 N M gv1 va vb true z.1 a b v a.reverse inn h1 h2 h3 hwa hwb hn h4 hwa.reverse (by simpa using hna) wi (by simpa using hl) (by simpa using h0))
  clear hz wz wi hr wr hin
  obtain ⟨X, hX⟩ : ∃ X, X = w.heap.size := ⟨_, rfl⟩
  rw [← hX] at HV1
  clear hQ h ha hb hwa hwb hR hl
  go_enter Tryz.func57, Tryz.ntmps57
  go_upto_region 1 with fail
  rw [← hX]
  clear hX
  generalize w.alloc (.cells #[.pointer (some ⟨N, 0, none⟩), va, vb, .bool true] 71) = w1 at HV1 ⊢
  obtain ⟨p0, p1, p2, p3⟩ := HV1.out.bx
  have hlX := HV1.out.xl
  go_upto_region 2 with (go_at_call 83; refine (HZ.out gv _ HV1.out.gb).mono ?_; rintro e w2 ⟨rfl, gv2, hB2, hS2⟩; have HV2 := Lib.hid (HV1.out.call hB2 hS2); clear hB2 hS2)
  clear p0 p1 p2 p3 hlX
  obtain ⟨p0, p1, p2, p3⟩ := HV2.out.bx
  have hlX := HV2.out.xl
  go_upto_region 4 with (go_at_call 92; refine (HT.out _ HV2.out.la.1).mono ?_; rintro e w3 ⟨rfl, hw3⟩; rw [hw3])
  go_region_held3 (fun w' => w'.cell? ⟨X, 0, none⟩ = some (.pointer (some ⟨N, 0, none⟩)) ∧ w'.cell? ⟨X, 1, none⟩ = some va ∧ w'.cell? ⟨X, 2, none⟩ = some vb ∧ w'.cell? ⟨X, 3, none⟩ = some (.bool true))
    (first | exact ⟨p0, p1, p2, p3⟩ | exact HV3.out.bx | exact HV4.out.bx | exact HV5.out.bx)
    (first | (go_at_call 95; refine (HM.out gv2 _ _ HV3.out.gb HV3.out.la HV3.out.lb HW3.out).mono ?_; rintro e w4 ⟨q4, c4, gv4, rfl, H4⟩; have HV4 := Lib.hid (HV3.out.call H4.out.1 H4.out.2.1)) | (go_at_call 96; first | (refine (HTR.out _ _ H4.out.2.2.1).mono ?_; rintro e w5 ⟨q5, c5, rfl, H5⟩; have HV5 := Lib.hid (HV4.out.next H5.out.ext)) | (refine (HTU.out _ (HV2.out.next (Ext.refl w2).drew).la.1).mono ?_; rintro e w3 ⟨q3, c3, rfl, H3⟩; have HV3 := Lib.hid ((HV2.out.next (Ext.refl w2).drew).next H3.out.ext); have HW3 := Lib.hid (show WL (Bs N M gv2) w3 (.slice q3 a.length c3) a.reverse from H3.out.wl (HV2.out.next (Ext.refl w2).drew).gb.lts))))
  go_wp2
  rw [HQ.out, HR.out]
  have e : ((r.1, r.2.reverse) : BL).2.length = r.2.length := by simp
  refine ⟨q5, c5, gv4, by rw [e]; rfl, Lib.hid ⟨HV5.out.gb, HV5.out.st, ?_⟩⟩
  rw [e]
  exact H5.out.wl HV4.out.gb.lts
end Go.Proofs.YtdjnekcpeaadhaaGreat
namespace Go.Proofs.YtdjnekcpeaadhaaGreat
open Go.RowKit Go.Maps
set_option linter.unusedSimpArgs false
set_option linter.unusedVariables false
set_option maxRecDepth 100000

theorem mulS_wf {s : BSt} {a b out : List Nat} {i : Nat} (h : BWf s) (ha : WsB a) (hb : WsB b) (ho : WsB out) : BWf (mulS s a b out i).1 ∧ WsB (mulS s a b out i).2 ∧ (mulS s a b out i).2.length = out.length := by
  have z := zeroF_wf h
  have r := eachF_wf okAnd (List.replicate i (zeroF s).2 ++ a.take (a.length - i)) (List.replicate a.length (b.getD i 0)) z.1 ((WsB.rep z.2).append (ha.take _)) (WsB.rep (hb.getD i))
  have y := zeroF_wf r.1
  have t := sumF_wf out _ y.1 ho r.2.1 y.2
  exact ⟨t.1, t.2.1, t.2.2.2⟩
set_option maxHeartbeats 8000000 in
theorem vmul_any (W w : World) (N M : Nat) (gv va vb : Value) (sg : Bool) (s : BSt) (a b : List Nat) (h : GB W N M gv s w) (ha : WL (Bs N M gv) w va a) (hb : WL (Bs N M gv) w vb b) (hwa : WsB a) (hwb : WsB b) (hn : a.length ≤ 10000) (hl : b.length = a.length) (hna : a.length ≤ 64) (h0 : 0 < a.length) :
    Calls Tryz.prog 49 #[.agg #[.pointer (some ⟨N, 0, none⟩), va, vb, .bool sg]] w (RetL W N M gv (mulF s a b) w) := by
  obtain ⟨R, hR⟩ : ∃ R, R = mulF s a b := ⟨_, rfl⟩
  rw [← hR]
  obtain ⟨Q, hQ⟩ : ∃ Q, Q = RetL W N M gv R w := ⟨_, rfl⟩
  rw [← hQ]
  have HQ := Lib.hid hQ
  have HV1 := Lib.hid (VB.start (sg := sg) h ha hb)
  have hmf := mf_run
  obtain ⟨x0, hx0⟩ : ∃ x, a[0]? = some x := ⟨_, List.getElem?_eq_getElem h0⟩
  obtain ⟨y0, hy0⟩ : ∃ y, b[0]? = some y := ⟨_, List.getElem?_eq_getElem (by omega)⟩
  obtain ⟨pa, ca, rfl, hac, ham, -⟩ := id ha.1
  obtain ⟨pb, cb, rfl, hbc, hbm, -⟩ := id hb.1
  obtain ⟨b0, o0, rfl, -, -, -⟩ := ha.get hx0
  obtain ⟨b1, o1, rfl, -, -, -⟩ := hb.get hy0
  have HB0 := Lib.hid hb
  obtain ⟨n, hnn⟩ : ∃ n, n = a.length := ⟨_, rfl⟩
  obtain ⟨z, hz⟩ : ∃ z, z = zeroF s := ⟨_, rfl⟩
  have wz : BWf z.1 ∧ WB z.2 := by rw [hz]; exact zeroF_wf h.wf
  have HX := Lib.hid (And.intro hR (And.intro hwa (And.intro hwb (And.intro hnn (And.intro hl (And.intro hz wz))))))
  have HZ0 : Hid (∀ gv1 w1 s1, GB W N M gv1 s1 w1 → Calls Tryz.prog 83 #[.pointer (some ⟨N, 0, none⟩)] w1 (RetW W N M gv1 (zeroF s1) w1)) := Lib.hid (fun gv1 w1 s1 h1 => zero_any W w1 N M gv1 s1 h1)
  have HF0 : Hid (∀ (k y : Nat) w1, k ≤ 64 → Calls Tryz.prog 85 #[.int .i64 (k : Int), .int .i64 (y : Int)] w1 fun e w' => ∃ q c, e = .returned (.slice q k c) ∧ Hid (RowF w1 w' (.slice q k c) (List.replicate k y))) := Lib.hid (fun k y w1 hk => fill_any k y w1 (by omega))
  rw [hl, ← hnn] at hbc HV1 ⊢
  rw [← hnn] at hac hna h0
  have hcI : (ca : Int) ≤ 9223372036854775807 := by unfold maxLen at ham; omega
  have hcJ : (cb : Int) ≤ 9223372036854775807 := by unfold maxLen at hbm; omega
  clear hx0 hy0 ham hbm hnn hz wz
  obtain ⟨X, hX⟩ : ∃ X, X = w.heap.size := ⟨_, rfl⟩
  rw [← hX] at HV1
  clear hQ h ha hb hwa hwb hR hl
  go_enter Tryz.func49, Tryz.ntmps49
  go_upto_region 1 with fail
  rw [← hX]
  clear hX
  generalize w.alloc (.cells #[.pointer (some ⟨N, 0, none⟩), (.slice (some ⟨b0, o0, none⟩) n ca), (.slice (some ⟨b1, o1, none⟩) n cb), .bool sg] 71) = w1 at HV1 ⊢
  obtain ⟨p0, p1, p2, p3⟩ := HV1.out.bx
  have hlX := HV1.out.xl
  go_wp2_with (first | (go_at_call 83; refine (HZ0.out gv _ s HV1.out.gb).mono ?_; rintro e w2 ⟨rfl, gv2, hB2, hS2⟩; have HV2 := Lib.hid (HV1.out.call hB2 hS2); clear hB2 hS2) | (go_at_call 85; refine (HF0.out n (zeroF s).2 _ hna).mono ?_; rintro e w3 ⟨q3, c3, rfl, H3⟩; have HV3 := Lib.hid (HV2.out.next H3.out.ext)))
  go_loopw [4, 16] (fun u i wr => ∃ (k m c : Nat) (p : Option Addr) (l : List Nat) (gv' : Value) (s' : BSt), k + m = n ∧ u = .slice p n c ∧ i = .int .i64 (k : Int) ∧ Hid (VB W N M gv w X (.slice (some ⟨b0, o0, none⟩) n ca) (.slice (some ⟨b1, o1, none⟩) n cb) sg a b gv' s' wr) ∧ Hid (WL (Bs N M gv') wr (.slice p n c) l ∧ WsB l ∧ l.length = n ∧ R = mulG m s' a b l k)) (fun _ i _ => n - (intOf i).toNat)
  case atStart => exact ⟨0, n, c3, q3, _, gv2, (zeroF s).1, by omega, rfl, rfl, HV3, Lib.hid ⟨H3.out.wl HV2.out.gb.lts, WsB.rep (by have := HX.out.2.2.2.2.2.2.2; rw [HX.out.2.2.2.2.2.1] at this; exact this), by simp, by rw [HX.out.1, HX.out.2.2.2.1]; rfl⟩⟩
  case round =>
    obtain ⟨k, m, c, p, l, gv', s', hkm, rfl, rfl, H, HL⟩ := hrel
    obtain ⟨p0, p1, p2, p3⟩ := H.out.bx
    have hlX := H.out.xl
    cases m with
    | zero =>
      have hki : ¬ (k : Int) < (n : Int) := by omega
      have HE : Hid (R = (s', l)) := Lib.hid HL.out.2.2.2
      go_wp2
      rw [HQ.out, HE.out]
      exact ⟨p, c, gv', by rw [HL.out.2.2.1], Lib.hid ⟨H.out.gb, H.out.st, by rw [HL.out.2.2.1]; exact HL.out.1⟩⟩
    | succ m =>
      have hki : (k : Int) < (n : Int) := by omega
      obtain ⟨E, hE⟩ : ∃ E, E = n - k := ⟨_, rfl⟩
      obtain ⟨y, hy⟩ : ∃ y, b[k]? = some y := ⟨_, List.getElem?_eq_getElem (by have := HX.out.2.2.2.2.1; have := HX.out.2.2.2.1; omega)⟩
      obtain ⟨b2, o2, e2, hcy, hby, hny⟩ := HB0.out.get hy
      simp only [Option.some.injEq, Addr.mk.injEq] at e2
      obtain ⟨rfl, rfl, -⟩ := e2
      have hwy := HX.out.2.2.1 y (List.mem_of_getElem? hy)
      have hna2 : n = a.length := HX.out.2.2.2.1
      obtain ⟨z1, hz1⟩ : ∃ z, z = zeroF s' := ⟨_, rfl⟩
      have wz1 : BWf z1.1 ∧ WB z1.2 := by rw [hz1]; exact zeroF_wf H.out.gb.wf
      obtain ⟨r, hr⟩ : ∃ r, r = eachF andF z1.1 (List.replicate k z1.2 ++ a.take E) (List.replicate n y) := ⟨_, rfl⟩
      have hwl : WsB (List.replicate k z1.2 ++ a.take E) := (WsB.rep wz1.2).append (HX.out.2.1.take E)
      have hll : (List.replicate k z1.2 ++ a.take E).length = n := by simp; omega
      have wr' : BWf r.1 ∧ WsB r.2 ∧ r.2.length = n := by rw [hr, ← hll]; exact eachF_wf okAnd _ _ wz1.1 hwl (WsB.rep hwy)
      obtain ⟨z2, hz2⟩ : ∃ z, z = zeroF r.1 := ⟨_, rfl⟩
      have wz2 : BWf z2.1 ∧ WB z2.2 := by rw [hz2]; exact zeroF_wf wr'.1
      obtain ⟨t, ht⟩ : ∃ t, t = sumF z2.1 l r.2 z2.2 := ⟨_, rfl⟩
      have hmS : mulS s' a b l k = (t.1, t.2.1) := by
        rw [ht, hz2, hr, hz1, hE, hna2]
        unfold mulS
        rw [List.getD_eq_getElem?_getD, hy]; rfl
      have HST : Hid (R = mulG m t.1 a b t.2.1 (k + 1) ∧ WsB t.2.1 ∧ t.2.1.length = n) := Lib.hid ⟨by
        have h1 := HL.out.2.2.2
        rw [show mulG (m + 1) s' a b l k = mulG m (mulS s' a b l k).1 a b (mulS s' a b l k).2 (k + 1) from rfl, hmS] at h1
        exact h1, by
        have h2 := mulS_wf (i := k) H.out.gb.wf HX.out.2.1 HX.out.2.2.1 HL.out.2.1
        rw [hmS, HL.out.2.2.1] at h2
        exact h2.2⟩
      have HZ1 : Hid (∀ gv1 w1, GB W N M gv1 s' w1 → Calls Tryz.prog 83 #[.pointer (some ⟨N, 0, none⟩)] w1 (RetW W N M gv1 z1 w1)) := Lib.hid (fun gv1 w1 h1 => by rw [hz1]; exact zero_any W w1 N M gv1 s' h1)
      have HZ2 : Hid (∀ gv1 w1, GB W N M gv1 r.1 w1 → Calls Tryz.prog 83 #[.pointer (some ⟨N, 0, none⟩)] w1 (RetW W N M gv1 z2 w1)) := Lib.hid (fun gv1 w1 h1 => by rw [hz2]; exact zero_any W w1 N M gv1 r.1 h1)
      have HEA : Hid (∀ gv1 w1 v u, GB W N M gv1 z1.1 w1 → WL (Bs N M gv1) w1 v (List.replicate k z1.2 ++ a.take E) → WL (Bs N M gv1) w1 u (List.replicate n y) → Calls Tryz.prog 86 #[v, u, .func (.func 87) #[.pointer (some ⟨N, 0, none⟩)] #[]] w1 (RetL W N M gv1 r w1)) := Lib.hid (fun gv1 w1 v u h1 h2 h3 => by rw [hr]; exact eachAnd_any W w1 N M gv1 v u z1.1 _ _ h1 h2 h3 hwl (WsB.rep hwy) (by rw [hll]; simp) (by omega))
      have HSU : Hid (∀ gv1 w1 v u, GB W N M gv1 z2.1 w1 → WL (Bs N M gv1) w1 v l → WL (Bs N M gv1) w1 u r.2 → Calls Tryz.prog 82 #[.pointer (some ⟨N, 0, none⟩), v, u, .int .i64 (z2.2 : Int)] w1 (RetS W N M gv1 t w1)) := Lib.hid (fun gv1 w1 v u h1 h2 h3 => by rw [ht]; exact sum_any W w1 N M gv1 v u z2.1 l r.2 z2.2 h1 h2 h3 HL.out.2.1 wr'.2.1 wz2.2 (by have := HL.out.2.2.1; have := wr'.2.2; omega) (by have := HL.out.2.2.1; omega))
      have HSL : Hid (∀ g1 s1 w1, VB W N M gv w X (.slice (some ⟨b0, o0, none⟩) n ca) (.slice (some ⟨b1, o1, none⟩) n cb) sg a b g1 s1 w1 → SlC w1 (.slice (some ⟨b0, o0, none⟩) E ca) E (wvs (a.take E))) := Lib.hid (fun g1 s1 w1 hv => by
        have h1 := hv.la.1
        rw [← hna2] at h1
        rw [← wvs_take]
        exact h1.cut E ca (by omega) (Nat.le_refl _))
      have HSS : Hid (∀ g1 s1 w1, VB W N M gv w X (.slice (some ⟨b0, o0, none⟩) n ca) (.slice (some ⟨b1, o1, none⟩) n cb) sg a b g1 s1 w1 → w1.cell? ⟨X, 0, none⟩ = some (.pointer (some ⟨N, 0, none⟩)) ∧ w1.cell? ⟨X, 1, none⟩ = some (.slice (some ⟨b0, o0, none⟩) n ca) ∧ w1.cell? ⟨X, 2, none⟩ = some (.slice (some ⟨b1, o1, none⟩) n cb) ∧ w1.cell? ⟨b1, o1 + k, none⟩ = some (.int .i64 (y : Int))) := Lib.hid (fun g1 s1 w1 hv => ⟨hv.bx.1, hv.bx.2.1, hv.bx.2.2.1, hv.st.kb.cell hny hcy⟩)
      have HNN : Hid (r.2.length = n ∧ (wvs (a.take E)).length = E ∧ k ≤ 64 ∧ k + E = n) := Lib.hid ⟨wr'.2.2, by rw [wvs_len, List.length_take]; omega, by omega, by omega⟩
      have HBL : Hid (∀ g1 s1 w1, VB W N M gv w X (.slice (some ⟨b0, o0, none⟩) n ca) (.slice (some ⟨b1, o1, none⟩) n cb) sg a b g1 s1 w1 → b1 < w1.heap.size) := Lib.hid (fun g1 s1 w1 hv => Nat.lt_of_lt_of_le hby hv.st.kb.size)
      have hbl1 := HBL.out _ _ _ H.out
      have hwE : IntKind.i64.wrap ((n : Int) - (k : Int)) = (E : Int) := (IntWalk.i64_in _ (by omega)).trans (by omega)
      have hE0 : (0 : Int) ≤ (E : Int) := by omega
      have hEc : (E : Int) ≤ (ca : Int) := by omega
      have hc0 : ¬ ca = 0 := by omega
      have hkc : k < cb := by omega
      clear hE hy hcy hby hny hwy hna2 hz1 wz1 hr hwl hll wr' hz2 wz2 ht hmS
      go_upto_region 6 with fail
      have HV4 := Lib.hid (H.out.next (Ext.refl wr).drew)
      have HL4 := Lib.hid (HL.out.1.ext (Ext.refl wr).drew)
      have hs4 := HSS.out _ _ _ H.out
      go_region_held3 (fun w' => w'.cell? ⟨X, 0, none⟩ = some (.pointer (some ⟨N, 0, none⟩)) ∧ w'.cell? ⟨X, 1, none⟩ = some (.slice (some ⟨b0, o0, none⟩) n ca) ∧ w'.cell? ⟨X, 2, none⟩ = some (.slice (some ⟨b1, o1, none⟩) n cb) ∧ w'.cell? ⟨b1, o1 + k, none⟩ = some (.int .i64 (y : Int)))
        (first | exact hs4 | exact HSS.out _ _ _ HV5.out | exact HSS.out _ _ _ HV6.out | exact HSS.out _ _ _ HV7.out)
        (first | (go_at_call 83; refine (HZ1.out gv' _ HV4.out.gb).mono ?_; rintro e w5 ⟨rfl, gv5, hB5, hS5⟩; have HV5 := Lib.hid (HV4.out.call hB5 hS5); have HL5 := Lib.hid (HL4.out.step hS5); clear hB5 hS5) | (go_at_call 85; refine (HF0.out k z1.2 _ HNN.out.2.2.1).mono ?_; rintro e w6 ⟨q6, c6, rfl, H6⟩; have HV6 := Lib.hid (HV5.out.next H6.out.ext)) | (refine step_append_slc _ rfl (.tmp 23) (.tmp 29) 29 rfl w5.heap.size 3 (.int .i64 0) 1 8 Tryz.underlying29 infoInt rfl (by decide) (.slice q6 k c6) k (wvs (List.replicate k z1.2)) rfl (by have := H6.out.own; simp only [List.length_replicate] at this; exact this) _ E (wvs (a.take E)) rfl (HSL.out _ _ _ HV6.out) (by rw [HNN.out.2.1, Nat.mul_one]) (fun u hu => by obtain ⟨z, -, rfl⟩ := List.mem_map.1 hu; rfl) (by have := HNN.out; unfold maxLen; omega) (by have := HNN.out; omega) H6.out.ext.size ?_; intro v7 w7 hown7 hg7 hat7; obtain ⟨x7, y7, z7, rfl⟩ := own_slice3 hown7; have HA7 := Lib.hid (RowF.apps (m := a.take E) H6.out hg7 (by have e := HNN.out.2.1; rw [wvs_len] at e; simp only [List.length_replicate]; rw [e]; exact hown7)); have HV7 := Lib.hid (HV5.out.next HA7.out.ext); have HL7 := Lib.hid (HL5.out.ext HA7.out.ext); clear hown7 hg7 hat7))
      have hy7 : n = y7 := by
        obtain ⟨a', c', e, -⟩ := SlC.of_owns HA7.out.own
        simp only [Value.slice.injEq] at e
        have h1 := e.2.1
        have h2 := HNN.out
        rw [List.length_append, List.length_replicate, List.length_take] at h1
        have h3 := h2.2.1
        rw [wvs_len, List.length_take] at h3
        omega
      subst hy7
      clear hwE hE0 hEc p0 p1 p2 p3 hlX
      have hlX := HV7.out.xl
      have hbl7 := HBL.out _ _ _ HV7.out
      have hs7 := HSS.out _ _ _ HV7.out
      have HRow := Lib.hid (show WL (Bs N M gv5) w7.drew (.slice x7 n z7) (List.replicate k z1.2 ++ a.take E) from by
        have h1 := (HA7.out.wl HV5.out.gb.lts).ext (Ext.refl w7).drew
        exact h1)
      have HV8 := Lib.hid (HV7.out.next (Ext.refl w7).drew)
      have HL8 := Lib.hid (HL7.out.ext (Ext.refl w7).drew)
      clear hs4
      go_upto_region 7 with fail
      go_region_held3 (fun w' => w'.cell? ⟨X, 0, none⟩ = some (.pointer (some ⟨N, 0, none⟩)) ∧ w'.cell? ⟨X, 1, none⟩ = some (.slice (some ⟨b0, o0, none⟩) n ca) ∧ w'.cell? ⟨X, 2, none⟩ = some (.slice (some ⟨b1, o1, none⟩) n cb) ∧ w'.cell? ⟨b1, o1 + k, none⟩ = some (.int .i64 (y : Int)))
        (first | exact hs7 | exact HSS.out _ _ _ HV9.out | exact HSS.out _ _ _ HV10.out)
        (first | (go_at_call 85; refine (HF0.out n y _ hna).mono ?_; rintro e w9 ⟨q9, c9, rfl, H9⟩; have HV9 := Lib.hid (HV8.out.next H9.out.ext)) | (go_at_call 86; refine (HEA.out gv5 _ _ _ HV9.out.gb (HRow.out.ext H9.out.ext) (H9.out.wl HV8.out.gb.lts)).mono ?_; rintro e w10 ⟨q10, c10, gv10, rfl, H10⟩; have HV10 := Lib.hid (HV9.out.call H10.out.1 H10.out.2.1); have HL10 := Lib.hid ((HL8.out.ext H9.out.ext).step H10.out.2.1)))
      all_goals
        rw [HNN.out.1] at H10
        rw [HNN.out.1]
        clear hs7
        have hlX := HV10.out.xl
        have hs10 := HV10.out.bx
        go_upto_region 8 with fail
        have HV11 := Lib.hid (HV10.out.next (Ext.refl w10).drew)
        have HL11 := Lib.hid (HL10.out.ext (Ext.refl w10).drew)
        have HR11 := Lib.hid (H10.out.2.2.ext (Ext.refl w10).drew)
        go_region_held3 (fun w' => w'.cell? ⟨X, 0, none⟩ = some (.pointer (some ⟨N, 0, none⟩)))
          (first | exact hs10.1 | exact HV12.out.bx.1 | exact HV13.out.bx.1)
          (first | (go_at_call 83; refine (HZ2.out gv10 _ HV11.out.gb).mono ?_; rintro e w12 ⟨rfl, gv12, hB12, hS12⟩; have HV12 := Lib.hid (HV11.out.call hB12 hS12); have HL12 := Lib.hid (And.intro (HL11.out.step hS12) (HR11.out.step hS12)); clear hB12 hS12) | (go_at_call 82; refine (HSU.out gv12 _ _ _ HV12.out.gb HL12.out.1 HL12.out.2).mono ?_; rintro e w13 ⟨q13, c13, gv13, rfl, H13⟩; have HV13 := Lib.hid (HV12.out.call H13.out.1 H13.out.2.1)))
        rw [HST.out.2.2] at H13
        go_wp2
        exact ⟨⟨k + 1, m, c13, q13, t.2.1, gv13, t.1, by omega, by rw [HST.out.2.2], by go_num, HV13, Lib.hid ⟨H13.out.2.2, HST.out.2.1, HST.out.2.2, HST.out.1⟩⟩, by simp [intOf]; omega⟩
end Go.Proofs.YtdjnekcpeaadhaaGreat
namespace Go.Proofs.YtdjnekcpeaadhaaGreat
open Go.RowKit Go.Maps
set_option linter.unusedSimpArgs false
set_option linter.unusedVariables false
set_option maxRecDepth 100000

def newS : BSt := ⟨[], false, none, []⟩
theorem newS_wf : BWf newS := ⟨by simp [newS], fun z h => by simp [newS] at h, fun e h => by simp [newS] at h, fun e h => by simp [newS] at h, by simp [newS], fun g h => by simp [newS] at h⟩
set_option maxHeartbeats 4000000 in
theorem new_any (w : World) :
    Calls Tryz.prog 24 #[] w fun e w' => ∃ N M, e = .returned (.pointer (some ⟨N, 0, none⟩)) ∧ Hid (GB w N M (.slice none 0 0) newS w') := by
  have hmm := @run_makeMap Tryz.prog
  have hE1 : Ext w (w.alloc (.map #[] 0)) := (Ext.refl w).alloc _
  have hM := World.ownsMap_made (H := Unit) w Tryz.prog 100 (plainElem Tryz.prog 3)
  have HE := Lib.hid (And.intro hE1 hM)
  clear hE1 hM
  go_enter Tryz.func24, Tryz.ntmps24
  go_wp2
  go_ret
  have hE2 : Ext (w.alloc (.map #[] 0)) ((w.alloc (.map #[] 0)).alloc (.cells #[.slice none 0 0, .bool false, .map (some w.heap.size), .int .i64 (-1)] 57)) := (Ext.refl _).alloc _
  have hX := BoxV.of_row (heap_alloc_last (w.alloc (.map #[] 0)) (.cells #[.slice none 0 0, .bool false, .map (some w.heap.size), .int .i64 (-1)] 57))
  rw [World.size_alloc] at hX
  refine ⟨w.heap.size + 1, w.heap.size, rfl, Lib.hid { ext := HE.out.1.trans hE2, box := hX, row := own_nil _ _ _ _, map := ⟨_, 0, Nat.zero_le _, HE.out.2.alloc _, SeenIs.nil⟩, ns := ⟨by omega, Nat.le_refl _⟩, nm := by omega, gn := fun b h => by simp [Value.ownBlock] at h, wf := newS_wf }⟩
theorem signedG_any (k : Int) (w : World) : Calls Tryz.prog 38 #[.int .i64 k] w fun e w' => e = .returned (.bool (decide (2 ≤ k) && decide (k ≤ 5))) ∧ w' = w := by
  by_cases h1 : 2 ≤ k
  · go_enter Tryz.func38, Tryz.ntmps38
    go_wp2
    go_ret
    exact ⟨by simp [h1], rfl⟩
  · go_enter Tryz.func38, Tryz.ntmps38
    go_wp2
    go_ret
    exact ⟨by simp; omega, rfl⟩
end Go.Proofs.YtdjnekcpeaadhaaGreat

/-
  The walks of the document's machine: a tick.
  Conditions: the machine lies in memory as it is said; its code is code.
-/
import Derived.Test.YtipfcfaigbeakaaJExecQ
namespace Go.Proofs.Ytipfcfaigbeakaa
open Go.RowKit
set_option linter.unusedSimpArgs false
set_option linter.unusedVariables false
set_option maxRecDepth 100000

/-- What a tick of the document's machine leaves. -/
def RefTickM (g : Nat) (c : CodeV) (kv iv bv : Value) (r : TickV) (w : World) (e : Ending) (w' : World) : Prop :=
  ∃ (v lv' : Value), e = .returned (.tuple #[v, .int .i64 r.n, .int .i64 0]) ∧ w'.ownsRow w.heap.size 3 1 v r.outs.length (i64s r.outs) ∧ RS g c kv iv bv lv' r.cells w' ∧ (∀ b, lv'.ownBlock = some b → w.heap.size ≤ b ∧ b < w'.heap.size) ∧ Kb [g] w w'
set_option maxHeartbeats 8000000 in
theorem rtick_good {g : Nat} {c : CodeV} {kv iv bv lv insv : Value} {cs ins : List Int} {w : World} {fin : Known} (h : RS g c kv iv bv lv cs w) (hins : SlC w insv ins.length (i64s ins)) (F : Formed c) (hbl : c.body.length ≤ 60000) (hkl : c.kinds.length ≤ 8000) (hst : c.stack ≤ 64) (FI : Fin c fin) (hI : ∀ q ∈ c.body, I64 q.op ∧ I64 q.n ∧ I64 q.k) (hII : ∀ x ∈ ins, I64 x) (hl : (ins.length : Int) = c.ins) (hok : insOk c ins = true) (hcs : CellsOk c cs) :
    Calls Try.prog 31 #[.pointer (some ⟨g, 0, none⟩), insv] w (RefTickM g c kv iv bv (tickV c cs ins) w) := by
  obtain ⟨Q, hQ⟩ : ∃ Q, Q = RefTickM g c kv iv bv (tickV c cs ins) w := ⟨_, rfl⟩
  rw [← hQ]
  have HQ := Lib.hid hQ
  clear hQ
  have f1 := F.sum
  have f2 := F.outs
  have f3 := F.cells
  have f4 := F.ins
  have hcl := hcs.len F
  obtain ⟨a, cap, rfl, h1, h2, hc⟩ := id hins
  obtain ⟨⟨ka, kcap, rfl, hk1, hk2, hkc⟩, ⟨ia, icap, rfl, -⟩, ⟨ba, bcap, rfl, -, -, hbc⟩⟩ := id h.code
  obtain ⟨la, lcap, rfl, -, -, -⟩ := id h.cells
  have HC := Lib.hid hc
  have HK := Lib.hid hkc
  have HBO := Lib.hid hbc
  have HH := Lib.hid h
  have HINS := Lib.hid hins
  obtain ⟨n, hn⟩ : ∃ n, n = ins.length := ⟨_, rfl⟩
  obtain ⟨K, hK⟩ : ∃ K, K = c.kinds.length := ⟨_, rfl⟩
  obtain ⟨O, hO⟩ : ∃ O, O = c.outs.toNat := ⟨_, rfl⟩
  obtain ⟨C, hC⟩ : ∃ C, C = cs.length := ⟨_, rfl⟩
  obtain ⟨N, hN⟩ : ∃ N : Nat, N = n + O := ⟨_, rfl⟩
  obtain ⟨L, hL⟩ : ∃ L, L = c.body.length := ⟨_, rfl⟩
  have q0 : w.cell? ⟨g, 0, none⟩ = some (.slice ka K kcap) := by rw [hK]; exact h.box.cells 0 _ rfl
  have q1 : w.cell? ⟨g, 1, none⟩ = some (.int .i64 (n : Int)) := by rw [hn, hl]; exact h.box.cells 1 _ rfl
  have q2 : w.cell? ⟨g, 2, none⟩ = some (.int .i64 (O : Int)) := by rw [hO, Int.toNat_of_nonneg f2]; exact h.box.cells 2 _ rfl
  have q3 : w.cell? ⟨g, 3, none⟩ = some (.int .i64 (C : Int)) := by rw [hC, hcl, Int.toNat_of_nonneg f3]; exact h.box.cells 3 _ rfl
  have q4 := h.box.cells 4 _ rfl
  have q5 := h.box.cells 5 _ rfl
  have q6 : w.cell? ⟨g, 6, none⟩ = some (.slice ba L bcap) := by rw [hL]; exact h.box.cells 6 _ rfl
  have HN := Lib.hid (And.intro hn (And.intro hK (And.intro hO (And.intro hC (And.intro hN hL)))))
  have hNK : N + C ≤ K := by omega
  have hK8 : K ≤ 8000 := by omega
  have hnK : n ≤ K := by omega
  have hL6 : L ≤ 60000 := by omega
  have hw1 : IntKind.i64.wrap ((n : Int) + (O : Int)) = (N : Int) := by rw [IntWalk.i64_in _ (by omega)]; omega
  have HHY := Lib.hid (And.intro F (And.intro hbl (And.intro hst (And.intro FI (And.intro hI (And.intro hII (And.intro hok (And.intro hcs (And.intro hl hcl)))))))))
  have hbpos : 0 < c.body.length := by
    have := F.last
    cases hb : c.body with
    | nil => rw [hb] at this; cases this
    | cons => simp
  rw [← hn]
  clear h hins F hbl hkl hst FI hI hII hl hok hcs f1 f2 f3 f4 hcl h1 h2 hc hk1 hk2 hkc hbc hn hK hO hC hN hL
  go_enter Try.func31, Try.ntmps31
  go_upto_region 2 with fail
  have hx1 : Ext w (w.alloc (.cells #[.slice ka K kcap, .int .i64 (n : Int), .int .i64 (O : Int), .int .i64 (C : Int), .int .i64 c.stack, .slice ia c.init.length icap, .slice ba L bcap] 25)) := (Ext.refl w).alloc _
  have HX1 := Lib.hid (BoxV.of_row (heap_alloc_last w (.cells #[.slice ka K kcap, .int .i64 (n : Int), .int .i64 (O : Int), .int .i64 (C : Int), .int .i64 c.stack, .slice ia c.init.length icap, .slice ba L bcap] 25)))
  generalize w.alloc (.cells #[.slice ka K kcap, .int .i64 (n : Int), .int .i64 (O : Int), .int .i64 (C : Int), .int .i64 c.stack, .slice ia c.init.length icap, .slice ba L bcap] 25) = w1 at hx1 HX1 ⊢
  obtain ⟨X, hX⟩ : ∃ X, X = w.heap.size := ⟨_, rfl⟩
  rw [← hX] at HX1 ⊢
  have HXX := Lib.hid hX
  have HE1 := Lib.hid hx1
  clear hx1 q0 q1 q2 q3 q4 q5 q6 hX
  have p1 := HX1.out.cells 1 _ rfl
  go_wp2
  go_loopw [8] (fun x wr => ∃ k : Nat, k ≤ n ∧ x = .int .i64 k ∧ Hid (Ext w1 wr)) (fun x _ => n - (intOf x).toNat)
  case atStart => exact ⟨0, Nat.zero_le _, rfl, Lib.hid (Ext.refl _)⟩
  case round =>
    obtain ⟨k, hkn, rfl, hxr⟩ := hrel
    have pb := HX1.out.ext hxr.out
    have p0 := pb.cells 0 _ rfl
    have p2 := pb.cells 2 _ rfl
    have p3 := pb.cells 3 _ rfl
    replace p1 := pb.cells 1 _ rfl
    clear pb
    by_cases hlt : k < n
    · have hki : k < ins.length := by rw [← HN.out.1]; exact hlt
      have hkk : k < c.kinds.length := by rw [← HN.out.2.1]; omega
      have hkK : (k : Int) < (K : Int) := by omega
      have hkn' : (k : Int) < (n : Int) := by omega
      have hk0 : (0 : Int) ≤ (k : Int) := by omega
      obtain ⟨x, hx⟩ : ∃ x, ins[k]? = some x := ⟨_, List.getElem?_eq_getElem hki⟩
      obtain ⟨y, hy⟩ : ∃ y, c.kinds[k]? = some y := ⟨_, List.getElem?_eq_getElem hkk⟩
      obtain ⟨b, o, rfl, c1⟩ := HC.out k (.int .i64 x) (by simp [hx])
      obtain ⟨b2, o2, rfl, c2⟩ := HK.out k (.int .i64 y) (by simp [hy])
      replace c1 := (HE1.out.trans hxr.out).cell c1
      replace c2 := (HE1.out.trans hxr.out).cell c2
      have hi : isk y x = true := insOk_at HHY.out.2.2.2.2.2.2.1 hy hx
      clear hx hy
      go_wp2
      (refine region_drew (by kernel_rfl) (by kernel_rfl) ?_; (repeat (go_big_quiet_step (exact in_drew (refIs_any _ _ _)))); refine wpQuiet_nil ?_; rintro _ ⟨nq, rfl⟩)
      go_wp2
      go_roundw
      case rel => exact ⟨k + 1, by omega, by go_num, Lib.hid (hxr.out.trans (by repeat first | exact Ext.refl _ | assumption | refine Ext.drew ?_ | refine Ext.drewN ?_ _ | refine Ext.extBy ?_ _ | refine Ext.alloc ?_ _ | refine Ext.setCell ?_ (by simp; try omega) _ | (refine Ext.trans ?_ (by assumption))))⟩
      case measure => simp [intOf]; omega
    · obtain rfl : n = k := by omega
      have hmk := run_make_row' (P := Try.prog) 22 3 (.int .i64 0) 8 Try.underlying22 infoInt rfl .i64 .i64 K (by omega) (by omega)
      go_upto_region 11 with fail
      have hx2 : Ext wr (wr.alloc (.cells (madeCells #[.int .i64 0] K) 3)) := (Ext.refl wr).alloc _
      have HR2 : Hid ((wr.alloc (.cells (madeCells #[.int .i64 0] K) 3)).ownsRow w.heap.size 3 1 (.slice (some ⟨wr.heap.size, 0, none⟩) K K) K (i64s (List.replicate K 0))) := Lib.hid (by
        have := own_made (e := 3) (K := K) (base := w.heap.size) wr.heap.size (.int .i64 0) (HE1.out.trans hxr.out).size (by unfold maxLen; omega) (heap_alloc_last wr (.cells (madeCells #[.int .i64 0] K) 3))
        simpa using this)
      generalize wr.alloc (.cells (madeCells #[.int .i64 0] K) 3) = w2 at hx2 HR2 ⊢
      obtain ⟨b, hb⟩ : ∃ b, b = wr.heap.size := ⟨_, rfl⟩
      rw [← hb] at HR2 ⊢
      have HBB := Lib.hid hb
      have HX2 := Lib.hid hx2
      clear hx2 hb hmk p0 p1 p2 p3
      have HL2 : Hid ((i64s ins).length = n) := Lib.hid (by simp; exact HN.out.1.symm)
      have HP2 : Hid (0 < n → (∃ g', (Value.slice (some ⟨b, 0, none⟩) K K).ownBlock = some g' ∧ some (⟨b, 0, none⟩ : Addr) = some ⟨g', 0, none⟩) ∧ ∃ ad, a = some ad ∧ ∀ j u, (i64s ins)[j]? = some u → w2.cell? (ad.add j) = some u) := Lib.hid fun h0 => ⟨⟨b, rfl, rfl⟩, by
        have hs := HINS.out.ext ((HE1.out.trans hxr.out).trans HX2.out)
        rw [← HN.out.1] at hs
        exact slc_src hs (by rw [HL2.out]; exact h0)⟩
      have pb := (HX1.out.ext hxr.out).ext HX2.out
      go_upto_region 12 with ((with_reducible refine wpList_copy_row' rfl (.tmp 55) (.tmp 56) 22 22 rfl 3 Try.underlying22 sizeInt1 w.heap.size K 3 (.slice (some ⟨b, 0, none⟩) K K) (i64s (List.replicate K 0)) HR2.out (some ⟨b, 0, none⟩) a K K n cap rfl rfl 0 (i64s ins) HL2.out hnK (by omega) (one_i64s _) HP2.out ?_); intro w3 hr3 hk3)
      go_frame
      have hXb : X < b := by rw [HBB.out]; exact (HX1.out.ext hxr.out).lt
      have hE2 : Ext w w2 := (HE1.out.trans hxr.out).trans HX2.out
      have hwb : w.heap.size ≤ b := by rw [HBB.out]; exact (HE1.out.trans hxr.out).size
      have HE3 := Lib.hid (hk3.ext hE2 (fun k hk => by simp [Value.ownBlock] at hk; omega))
      have HPB3 := Lib.hid (pb.kb hk3 (by simp [Value.ownBlock]; omega))
      have HR3 := Lib.hid hr3
      have q7 : w3.cell? ⟨g, 7, none⟩ = some (.slice la C lcap) := by rw [HN.out.2.2.2.1]; exact (HH.out.box.ext HE3.out).cells 7 _ rfl
      have p1 := HPB3.out.cells 1 _ rfl
      have p2 := HPB3.out.cells 2 _ rfl
      have hNI : (n : Int) + (O : Int) = (N : Int) := by have := HN.out.2.2.2.2.1; omega
      obtain ⟨p, hp, hcut⟩ := run_cut_l (P := Try.prog) 22 (by kernel_rfl) sizeInt b K K N (by omega)
      have HP3 : Hid (0 < C → (∃ g', (Value.slice (some ⟨b, 0, none⟩) K K).ownBlock = some g' ∧ some p = some (⟨g', N, none⟩ : Addr)) ∧ ∃ ad, la = some ad ∧ ∀ j u, (i64s cs)[j]? = some u → w3.cell? (ad.add j) = some u) := Lib.hid fun h0 => ⟨⟨b, rfl, congrArg some (hp (by omega))⟩, slc_src (n := cs.length) (cap := lcap) (HH.out.cells.ext HE3.out) (by simp; rw [← HN.out.2.2.2.1]; exact h0)⟩
      have HL3 : Hid ((i64s cs).length = C) := Lib.hid (by simp; exact HN.out.2.2.2.1.symm)
      have hCK : C ≤ K - N := by omega
      have HXB := Lib.hid (And.intro hXb hwb)
      clear hr3 hk3 hp pb hE2 hXb hwb
      go_upto_region 13 with fail
      clear p1 p2 hNI hw1
      (refine region_drew_tail 7 (by kernel_rfl) (by kernel_rfl) ?_; simp only [List.take_succ_cons, List.take_zero, List.drop_succ_cons, List.drop_zero]; (repeat (go_big_quiet_step (fail))); refine wpQuiet_nil ?_; rintro _ ⟨nq, rfl⟩)
      have hrow3 := ownsRow_ext HR3.out ((Ext.refl w3).drewN nq)
      have hpos3 : 0 < C → (∃ g', (Value.slice (some ⟨b, 0, none⟩) K K).ownBlock = some g' ∧ some p = some (⟨g', N, none⟩ : Addr)) ∧ ∃ ad, la = some ad ∧ ∀ j u, (i64s cs)[j]? = some u → (w3.drewN nq).cell? (ad.add j) = some u := HP3.out
      refine wpList_copy_row' rfl (.tmp 65) (.tmp 69) 22 22 rfl 3 Try.underlying22 sizeInt1 w.heap.size K 3 (.slice (some ⟨b, 0, none⟩) K K) (splice (i64s (List.replicate K 0)) 0 (i64s ins)) hrow3 (some p) la (K - N) (K - N) C lcap rfl rfl N (i64s cs) HL3.out hCK hNK (one_i64s _) hpos3 ?_
      intro w4 hr4 hk4
      go_upto_region 14 with fail
      go_frame
      simp only [goInt]
      have hsl : ins.length + c.outs.toNat + cs.length ≤ c.kinds.length := by rw [← HN.out.1, ← HN.out.2.1, ← HN.out.2.2.1, ← HN.out.2.2.2.1]; have := HN.out.2.2.2.2.1; omega
      have hr4' : w4.ownsRow w.heap.size 3 1 (.slice (some ⟨b, 0, none⟩) K K) K (i64s (slots0 c cs ins)) := by
        rw [← slots0_is hsl, ← splice_i64s, ← splice_i64s, ← HN.out.1, ← HN.out.2.1, ← HN.out.2.2.1, ← HN.out.2.2.2.2.1]; exact hr4
      have HRQ : Hid (RQ w X b K [.slice ka K kcap, .int .i64 (n : Int), .int .i64 (O : Int), .int .i64 (C : Int), .int .i64 c.stack, .slice ia c.init.length icap, .slice ba L bcap] (.slice none 0 0) (slots0 c cs ins) [] w4) := Lib.hid
        ⟨hk4.ext (HE3.out.trans ((Ext.refl w3).drewN nq)) (fun k hk => by have := HXB.out.2; simp [Value.ownBlock] at hk; omega), (HPB3.out.ext ((Ext.refl w3).drewN nq)).kb hk4 (by have := HXB.out.1; simp [Value.ownBlock]; omega), hr4', own_nil _ _ _ _, by simp [Value.ownBlock], by simp [Value.ownBlock], by have := HXB.out.1; omega, Nat.le_of_eq HXX.out.symm⟩
      clear hr4 hr4' hk4 hrow3 hpos3 hCK hcut q7 hsl
      obtain ⟨R, hR⟩ : ∃ R, R = endV c.body c.body.length (slots0 c cs ins) [] 0 0 := ⟨_, rfl⟩
      have HR := Lib.hid hR
      clear hR
      go_wp2
      go_loopw [12, 13, 14] (fun x y z wq => ∃ (k i f : Nat) (s t : List Int) (tv : Value), x = tv ∧ y = .int .i64 k ∧ z = .int .i64 i ∧ Hid (RQ w X b K [.slice ka K kcap, .int .i64 (n : Int), .int .i64 (O : Int), .int .i64 (C : Int), .int .i64 c.stack, .slice ia c.init.length icap, .slice ba L bcap] tv s t wq) ∧ Hid (AtV c fin s t i k) ∧ Hid (c.body.length ≤ i + f ∧ endV c.body f s t i k = R)) (fun _ _ z _ => L - (intOf z).toNat)
      case atStart =>
        refine ⟨0, 0, c.body.length, slots0 c cs ins, [], _, rfl, rfl, rfl, HRQ, Lib.hid ⟨hbpos, ?_, ⟨[], HHY.out.2.2.2.1.first, ValsK.nil⟩, Nat.le_refl _⟩, Lib.hid ⟨by omega, HR.out.symm⟩⟩
        exact slots0_vals HHY.out.1 HHY.out.2.2.2.2.2.2.2.1 HHY.out.2.2.2.2.2.2.2.2.1 HHY.out.2.2.2.2.2.1 HHY.out.2.2.2.2.2.2.1
      case round =>
        obtain ⟨k, i, f, s, t, tv, rfl, rfl, rfl, HRr, HAT, HFE⟩ := hrel
        have hat := HAT.out
        obtain ⟨q, hq⟩ : ∃ q, c.body[i]? = some q := ⟨_, List.getElem?_eq_getElem hat.lt⟩
        have ht64 := hat.high HHY.out.2.2.2.1 HHY.out.2.2.1
        have hki := hat.count
        have hiL : i < L := by rw [HN.out.2.2.2.2.2]; exact hat.lt
        have HNX := Lib.hid (hat.next HHY.out.2.2.2.1 HHY.out.1 HHY.out.2.2.2.2.1 hq)
        have HQQ := Lib.hid hq
        have HOP := Lib.hid (HHY.out.1.ops i q hq)
        have hcs3 := insCells_at c.body i q hq
        obtain ⟨b3, o3, rfl, g0⟩ := HBO.out (i * 3) _ hcs3.1
        obtain ⟨b3', o3', e0, g1⟩ := HBO.out (i * 3 + 1) _ hcs3.2.1
        simp only [Option.some.injEq, Addr.mk.injEq] at e0
        obtain ⟨rfl, rfl, -⟩ := e0
        obtain ⟨b3', o3', e0, g2⟩ := HBO.out (i * 3 + 2) _ hcs3.2.2
        simp only [Option.some.injEq, Addr.mk.injEq] at e0
        obtain ⟨rfl, rfl, -⟩ := e0
        replace g0 := HRr.out.ext.cell g0
        replace g1 := HRr.out.ext.cell g1
        replace g2 := HRr.out.ext.cell g2
        rw [← Nat.add_assoc] at g1 g2
        obtain ⟨ta, tcap, rfl, ht1, ht2, htc⟩ := SlC.of_owns HRr.out.stk
        have hi0 : (0 : Int) ≤ (i : Int) := by omega
        have hi1 : (i : Int) < (L : Int) := by omega
        have p6 := HRr.out.box.cells 6 _ rfl
        obtain ⟨M, hM⟩ : ∃ M, M = t.length := ⟨_, rfl⟩
        have HM := Lib.hid hM
        rw [← hM] at ht64 HRr ht1 ⊢
        have HT := Lib.hid (And.intro ht1 (And.intro ht2 htc))
        clear hat hq hcs3 ht1 ht2 htc hM
        obtain ⟨qo, qn, qk⟩ := q
        dsimp only at g0 g1 g2
        go_upto_region 18 with (refine wpList_store_last rfl 33 (.tmp 15) (.tmp 75) rfl _ _ _ _ rfl rfl (by simp) (by kernel_rfl) (by kernel_rfl) (by kernel_rfl) ?_)
        go_frame
        have hx5 : Ext wr (wr.alloc (.cells #[.int .i64 qo, .int .i64 qn, .int .i64 qk] 33)) := (Ext.refl wr).alloc _
        have HB5 := Lib.hid (BoxV.of_row (heap_alloc_last wr (.cells #[.int .i64 qo, .int .i64 qn, .int .i64 qk] 33)))
        generalize wr.alloc (.cells #[.int .i64 qo, .int .i64 qn, .int .i64 qk] 33) = w5 at hx5 HB5 ⊢
        have HX5 := Lib.hid hx5
        have HR5 := Lib.hid (HRr.out.more hx5)
        obtain ⟨Y, hY⟩ : ∃ Y, Y = wr.heap.size := ⟨_, rfl⟩
        rw [← hY] at HB5 ⊢
        have HYY := Lib.hid hY
        have hY0 := HB5.out.cells 0 _ rfl
        have hY1 := HB5.out.cells 1 _ rfl
        have hY2 := HB5.out.cells 2 _ rfl
        clear hx5 hY g0 g1 g2 p6 hi1
        go_upto_region 24 with fail
        have hcl5 := HR5.out.box
        have HVAL := Lib.hid HR5.out.val
        have HSTK : Hid (w5.ownsRow w.heap.size 3 1 (.slice ta M tcap) M (i64s t)) := Lib.hid (by have := HR5.out.stk; rwa [← HM.out] at this)
        have hws : w.heap.size ≤ w5.heap.size := HR5.out.ext.size
        have hY5 := HB5.out.lt
        have hb5 := (HVAL.out.lt b rfl).2
        have hkB : (k : Int) ≤ 60000 := by omega
        clear hcl5
        rcases HNX.out with ⟨h9, ht0⟩ | ⟨h9, s2, t2, i2, hD, hA2⟩
        · obtain rfl : qo = 9 := h9
          have HEND : Hid (R = (s, k + 1)) := Lib.hid (HFE.out.2.symm.trans (endV_end HQQ.out rfl HFE.out.1))
          have hsK := HR5.out.len
          obtain ⟨E, hE⟩ : ∃ E : Nat, E = N + C := ⟨_, rfl⟩
          have hNC : (N : Int) + (C : Int) = (E : Int) := by omega
          have hnN : n ≤ N := by have := HN.out.2.2.2.2.1; omega
          obtain ⟨p2, hp2, hcut2⟩ := run_cut_lh (P := Try.prog) 22 (by kernel_rfl) sizeInt b K K N E (by omega) (by omega)
          obtain ⟨p3, hp3, hcut3⟩ := run_cut_lh (P := Try.prog) 22 (by kernel_rfl) sizeInt b K K n N hnN (by omega)
          have HSL1 : Hid (SlC w5 (.slice (some p2) (E - N) (K - N)) (E - N) (i64s ((s.drop N).take (E - N)))) := Lib.hid (own_sub HVAL.out (by omega) N E p2 hp2 (by omega) (by omega))
          have HLL1 : Hid ((i64s ((s.drop N).take (E - N))).length = (E - N) * 1) := Lib.hid (by simp [hsK]; omega)
          have HLL2 : Hid ((i64s ((s.drop n).take (N - n))).length = (N - n) * 1) := Lib.hid (by simp [hsK]; omega)
          have HP3E : Hid (n < K → p3 = ⟨b, n, none⟩) := Lib.hid hp3
          have HNE : Hid (E = N + C ∧ n ≤ N) := Lib.hid ⟨hE, hnN⟩
          have p1 := HR5.out.box.cells 1 _ rfl
          have p3' := HR5.out.box.cells 3 _ rfl
          have gw := HH.out.box.lt
          have HGX : Hid (g < X ∧ g < b ∧ g < w5.heap.size) := Lib.hid (by have := HXX.out; have := HXB.out; omega)
          have hEN : E - N ≤ 8000 := by omega
          have hNn : N - n ≤ 8000 := by omega
          have hsz5 : wr.heap.size ≤ w5.heap.size := HX5.out.size
          clear hp2 hp3 hE hnN hsK
          go_upto_region 23 with (at_builtin; refine wpList_append_slc _ rfl (.const (.slice none 0 0)) (.tmp 92) 22 rfl w5.heap.size 3 (.int .i64 0) 1 8 Try.underlying22 infoInt rfl (by decide) (.slice none 0 0) 0 [] rfl (own_nil _ _ _ _) _ (E - N) (i64s ((s.drop N).take (E - N))) rfl HSL1.out HLL1.out (one_i64s _) (by unfold maxLen; omega) (by omega) (Nat.le_refl _) ?_; intro v1 w6 hown1 hg1 hat1; have hE6 : Ext w5 w6 := ext_grown_nil hg1; obtain ⟨k1, k2, k3, rfl⟩ := own_slice3 hown1; have hbg := (HH.out.box.ext (HR5.out.ext.trans hE6)); have q7 := hbg.cells 7 _ rfl; have gl := hbg.lt; have gf := hbg.fz)
          have hk7 : Kb [g] w6 (w6.setCell ⟨g, 7, none⟩ (.slice k1 k2 k3)) := Kb.set w6 g 7 (by simp) _
          have HBG7 := Lib.hid ((hbg.put 7 (.slice k1 k2 k3)).cast rfl)
          have HK7 : Hid (Kb [g] w (w6.setCell ⟨g, 7, none⟩ (.slice k1 k2 k3))) := Lib.hid ((Kb.of_ext (HR5.out.ext.trans hE6)).trans hk7)
          have HPB7 := Lib.hid ((HR5.out.box.ext hE6).kb hk7 (by have := HGX.out.1; simp; omega))
          have HVAL7 := Lib.hid (hk7.row (ownsRow_ext HVAL.out hE6) (fun k hk => by rw [List.mem_singleton.1 hk]; intro e; have e2 : b = g := Option.some.inj e; have := HGX.out.2.1; omega))
          have HOWN7 := Lib.hid (hk7.row hown1 (fun k hk => by rw [List.mem_singleton.1 hk]; intro e; have := (hown1.lt g e).1; have := HGX.out.2.2; omega))
          generalize w6.setCell ⟨g, 7, none⟩ (.slice k1 k2 k3) = w7 at HBG7 HK7 HPB7 HVAL7 HOWN7 ⊢
          clear hown1 hg1 hat1 hE6 hbg q7 gl gf hk7 p1 p3' hcut2
          have p1 := HPB7.out.cells 1 _ rfl
          have HSL2 : Hid (SlC w7 (.slice (some p3) (N - n) (K - n)) (N - n) (i64s ((s.drop n).take (N - n)))) := Lib.hid (own_sub HVAL7.out (by omega) n N p3 HP3E.out HNE.out.2 (by omega))
          go_wp2_with (at_builtin; refine wpList_append_slc _ rfl (.const (.slice none 0 0)) (.tmp 100) 22 rfl w7.heap.size 3 (.int .i64 0) 1 8 Try.underlying22 infoInt rfl (by decide) (.slice none 0 0) 0 [] rfl (own_nil _ _ _ _) _ (N - n) (i64s ((s.drop n).take (N - n))) rfl HSL2.out HLL2.out (one_i64s _) (by unfold maxLen; omega) (by omega) (Nat.le_refl _) ?_; intro v2 w8 hown2 hg2 hat2; have hE8 : Ext w7 w8 := ext_grown_nil hg2; obtain ⟨j1, j2, j3, rfl⟩ := own_slice3 hown2)
          go_ret3
          rw [HQ.out]
          have hO : O = N - n := by have := HN.out.2.2.2.2.1; omega
          have hTV : tickV c cs ins = ⟨0, (s.drop n).take (N - n), k + 1, (s.drop N).take (E - N)⟩ := by
            unfold tickV
            rw [if_neg (by rw [HHY.out.2.2.2.2.2.2.2.2.1]; simp), if_neg (by rw [HHY.out.2.2.2.2.2.2.1]; simp), ← HR.out, HEND.out]
            dsimp only
            rw [← HN.out.1, ← HN.out.2.2.1, ← HN.out.2.2.2.2.1, ← HHY.out.2.2.2.2.2.2.2.2.2, ← HN.out.2.2.2.1, hO, show E - N = C by have := HNE.out.1; omega]
          rw [hTV]
          rw [Nat.zero_add, List.nil_append] at hown2
          have hown1 := ownsRow_ext HOWN7.out hE8
          rw [Nat.zero_add, List.nil_append] at hown1
          have hk8 : Kb [g] w w8 := HK7.out.trans (Kb.of_ext hE8)
          have hl1 : ((s.drop n).take (N - n)).length = N - n := by have := HLL2.out; simp only [List.length_map] at this; omega
          have hl2 : ((s.drop N).take (E - N)).length = E - N := by have := HLL1.out; simp only [List.length_map] at this; omega
          have hc := HH.out.code
          have hsg : ∀ {v : Value}, v.ownBlock ≠ some g → ∀ k ∈ [g], v.ownBlock ≠ some k := fun h k hk => by rw [List.mem_singleton.1 hk]; exact h
          refine ⟨_, .slice k1 k2 k3, rfl, ?_, ⟨HBG7.out.ext hE8, ⟨hc.kinds.kb0 hk8 (fun e => hsg (HH.out.nk (i64s_ne e))), hc.init.kb0 hk8 (fun e => hsg (HH.out.ni (i64s_ne e))), hc.body.kb0 hk8 (fun e => hsg (HH.out.nb (insCells_ne e)))⟩, ?_, HH.out.nk, HH.out.ni, HH.out.nb⟩, fun b' hb' => ⟨Nat.le_trans hws (HOWN7.out.lt b' hb').1, (hown1.lt b' hb').2⟩, hk8⟩
          · rw [hl1]; exact ownsRow_base hown2 HK7.out.size
          · rw [hl2]; exact SlC.of_owns hown1
        · obtain ⟨f2, hf2, he2⟩ := endV_step (n := k) HQQ.out h9 hD HFE.out.1
          have HFE2 : Hid (c.body.length ≤ i2 + f2 ∧ endV c.body f2 s2 t2 i2 (k + 1) = R) := Lib.hid ⟨hf2, he2.symm.trans HFE.out.2⟩
          have HA2 := Lib.hid hA2
          have hiL2 : i < L := hiL
          clear h9 hf2 he2 hA2
          cases hD with
          | push e =>
            obtain rfl : qo = 1 := e
            go_wp2_with (at_builtin; refine wpList_append_slc _ rfl (.tmp 105) (.tmp 108) 22 rfl w.heap.size 3 (.int .i64 0) 1 8 Try.underlying22 infoInt rfl (by decide) (.slice ta M tcap) M (i64s t) rfl (HSTK.out.alloc _) _ 1 [.int .i64 qn] rfl (SlC.fresh _ #[.int .i64 qn] _ 1 _ (by simp) (by decide)) (by simp) (by simp [Value.oneCell']) (by unfold maxLen; omega) (by omega) (Nat.le_trans hws (by simp)) ?_; intro v1 w6 hown hg1 hat1)
            go_roundw
            case rel => exact ⟨k + 1, i + 1, f2, s, t ++ [qn], v1, rfl, by go_num, by go_num, Lib.hid (HR5.out.pushed HM.out hown hg1 hat1), HA2, HFE2⟩
            case measure => simp [intOf]; omega
          | load j x e hn hx =>
            obtain rfl : qo = 2 := e
            obtain rfl : qn = (j : Int) := hn
            have hj : j < K := by rw [← HR5.out.len]; exact (List.getElem?_eq_some_iff.1 hx).1
            have hv := (own_cell1 HVAL.out j (.int .i64 x) (by simp [hx])).1
            have hj0 : (0 : Int) ≤ (j : Int) := by omega
            have hj1 : (j : Int) < (K : Int) := by omega
            clear hx
            go_wp2_with (at_builtin; refine wpList_append_slc _ rfl (.tmp 112) (.tmp 118) 22 rfl w.heap.size 3 (.int .i64 0) 1 8 Try.underlying22 infoInt rfl (by decide) (.slice ta M tcap) M (i64s t) rfl (HSTK.out.alloc _) _ 1 [.int .i64 x] rfl (SlC.fresh _ #[.int .i64 x] _ 1 _ (by simp) (by decide)) (by simp) (by simp [Value.oneCell']) (by unfold maxLen; omega) (by omega) (Nat.le_trans hws (by simp)) ?_; intro v1 w6 hown hg1 hat1)
            go_roundw
            case rel => exact ⟨k + 1, i + 1, f2, s, t ++ [x], v1, rfl, by go_num, by go_num, Lib.hid (HR5.out.pushed HM.out hown hg1 hat1), HA2, HFE2⟩
            case measure => simp [intOf]; omega
          | save j r x e hn hj hr =>
            obtain rfl : qo = 3 := e
            obtain rfl : qn = (j : Int) := hn
            subst hr
            have hjK : j < K := by rw [← HR5.out.len]; exact hj
            have hMr : M = t2.length + 1 := by rw [HM.out]; simp
            obtain ⟨m, hm⟩ : ∃ m, m = t2.length := ⟨_, rfl⟩
            have HMM := Lib.hid hm
            have hMm : M = m + 1 := by omega
            have hm1 : (M : Int) - 1 = (m : Int) := by omega
            obtain ⟨tb, cap', e1, -, hcap, htb⟩ := ownsRow_some HSTK.out (by omega)
            simp only [Value.slice.injEq, true_and] at e1
            obtain ⟨rfl, rfl⟩ := e1
            have hsx := own_cell1 HSTK.out m (.int .i64 x) (by rw [hm]; simp)
            have hm0 : (0 : Int) ≤ (m : Int) := by omega
            have hmM : (m : Int) < (M : Int) := by omega
            have hct := run_cut_h (P := Try.prog) 22 (by kernel_rfl) sizeInt tb M tcap m (by omega)
            have htk : (t2 ++ [x]).take m = t2 := by rw [hm]; exact List.take_left' rfl
            have HTK := Lib.hid htk
            rw [hm1]
            clear hm hMr htk hMm
            have hv := own_cell1 HVAL.out j (.int .i64 s[j]) (by simp [List.getElem?_eq_getElem hj])
            have hj0 : (0 : Int) ≤ (j : Int) := by omega
            have hj1 : (j : Int) < (K : Int) := by omega
            go_wp2
            (refine region_drew_tail 8 (by kernel_rfl) (by kernel_rfl) ?_; simp only [List.take_succ_cons, List.take_zero, List.drop_succ_cons, List.drop_zero]; (repeat (go_big_quiet_step (fail))); refine wpQuiet_nil ?_; rintro _ ⟨nq, rfl⟩)
            go_wp2
            go_roundw
            case rel =>
              have hr := ((HR5.out.more ((Ext.refl w5).drewN nq)).slot j hjK x).cut m (by rw [← HM.out]; omega) HM.out
              rw [HTK.out] at hr
              exact ⟨k + 1, i + 1, f2, s.set j x, t2, _, rfl, by go_num, by go_num, Lib.hid hr, HA2, HFE2⟩
            case measure => simp [intOf]; omega
          | un r x e hr hx =>
            obtain rfl : qo = 4 := e
            subst hr
            have HUN : Hid (∀ w', Calls Try.prog 60 #[.int .i64 qn, .int .i64 qk, .int .i64 x] w' fun e w1 => e = .returned (.tuple #[.int .i64 (unv qn qk x).1, .bool (unv qn qk x).2]) ∧ Ext w' w1) := Lib.hid fun w' => by have := refUn_any qn qk x w'; rwa [runv_unv] at this
            dsimp only at HA2 HFE2
            generalize unv qn qk x = u at HUN HA2 HFE2
            obtain ⟨u, ub⟩ := u
            dsimp only at HUN HA2 HFE2
            have hMr : M = r.length + 1 := by rw [HM.out]; simp
            obtain ⟨m, hm⟩ : ∃ m, m = r.length := ⟨_, rfl⟩
            have HMM := Lib.hid hm
            have hMm : M = m + 1 := by omega
            have hm1 : (M : Int) - 1 = (m : Int) := by omega
            obtain ⟨tb, cap', e1, -, hcap, htb⟩ := ownsRow_some HSTK.out (by omega)
            simp only [Value.slice.injEq, true_and] at e1
            obtain ⟨rfl, rfl⟩ := e1
            have hsx := own_cell1 HSTK.out m (.int .i64 x) (by rw [hm]; simp)
            have hm0 : (0 : Int) ≤ (m : Int) := by omega
            have hmM : (m : Int) < (M : Int) := by omega
            have hct := run_cut_h (P := Try.prog) 22 (by kernel_rfl) sizeInt tb M tcap m (by omega)
            have htk : (r ++ [x]).take m = r := by rw [hm]; exact List.take_left' rfl
            have HTK := Lib.hid htk
            rw [hm1]
            clear hm hMr htk hMm
            go_wp2
            ((first | (with_reducible refine region_ext2 (by kernel_rfl) (by kernel_rfl) ?_) | refine region_ext (by kernel_rfl) (by kernel_rfl) ?_); (repeat (go_big_quiet_step (exact in_ext (HUN.out _)))); refine wpQuiet_nil ?_; rintro _ ⟨t1, rfl⟩)
            go_wp2
            go_roundw
            case rel =>
              have hr := HR5.out
              rw [HM.out] at hr
              have hr2 := (hr.more (Ext.by w5 t1)).top m (by simp; rw [HMM.out]; omega) u
              rw [← HM.out, HMM.out, set_last] at hr2
              rw [HMM.out]
              exact ⟨k + 1, i + 1, f2, s, r ++ [u], _, rfl, by go_num, by go_num, Lib.hid hr2, HA2, HFE2⟩
            case measure => simp [intOf]; omega
          | bin r x y e hr hx hy =>
            obtain rfl : qo = 5 := e
            subst hr
            have HUN : Hid (∀ w', Calls Try.prog 61 #[.int .i64 qn, .int .i64 qk, .int .i64 x, .int .i64 y] w' fun e w1 => e = .returned (.tuple #[.int .i64 (binv qn qk x y).1, .int .i64 (binv qn qk x y).2.1, .bool (binv qn qk x y).2.2]) ∧ Ext w' w1) := Lib.hid fun w' => refBin_any qn qk x y hx hy w'
            dsimp only at HA2 HFE2
            generalize binv qn qk x y = u at HUN HA2 HFE2
            obtain ⟨u, uk, ub⟩ := u
            dsimp only at HUN HA2 HFE2
            have hMr : M = r.length + 2 := by rw [HM.out]; simp
            obtain ⟨m, hm⟩ : ∃ m, m = r.length := ⟨_, rfl⟩
            obtain ⟨m1, hmm1⟩ : ∃ m1, m1 = m + 1 := ⟨_, rfl⟩
            have HMM := Lib.hid hm
            have hm1 : (M : Int) - 1 = (m1 : Int) := by omega
            have hm2 : IntKind.i64.wrap ((m1 : Int) - 1) = (m : Int) := by rw [IntWalk.i64_in _ (by omega)]; omega
            have hm3 : (m1 : Int) - 1 = (m : Int) := by omega
            obtain ⟨tb, cap', e1, -, hcap, htb⟩ := ownsRow_some HSTK.out (by omega)
            simp only [Value.slice.injEq, true_and] at e1
            obtain ⟨rfl, rfl⟩ := e1
            have hsx := (own_cell1 HSTK.out m (.int .i64 x) (by rw [hm]; simp)).1
            have hsy := (own_cell1 HSTK.out m1 (.int .i64 y) (by rw [hmm1, hm]; simp)).1
            have hm0 : (0 : Int) ≤ (m : Int) := by omega
            have hmM : (m : Int) < (M : Int) := by omega
            have hm10 : (0 : Int) ≤ (m1 : Int) := by omega
            have hm1M : (m1 : Int) < (M : Int) := by omega
            have hct := run_cut_h (P := Try.prog) 22 (by kernel_rfl) sizeInt tb M tcap m (by omega)
            have htk : (r ++ [x] ++ [y]).take m = r := by rw [hm, List.append_assoc]; exact List.take_left' rfl
            have HTK := Lib.hid htk
            have hm64 : m ≤ 64 := by omega
            rw [hm1]
            have HMc : Hid (m ≤ (r ++ [x] ++ [y]).length) := Lib.hid (by simp; omega)
            clear hm hMr htk hmm1
            go_wp2
            ((first | (with_reducible refine region_ext2 (by kernel_rfl) (by kernel_rfl) ?_) | refine region_ext (by kernel_rfl) (by kernel_rfl) ?_); (repeat (go_big_quiet_step (exact in_ext (HUN.out _)))); refine wpQuiet_nil ?_; rintro _ ⟨t1, rfl⟩)
            have hrc := (HR5.out.more (Ext.by w5 t1)).cut m HMc.out HM.out
            rw [HTK.out] at hrc
            have HRC := Lib.hid hrc
            have HSC : Hid ((w5.extBy t1).ownsRow w.heap.size 3 1 (.slice (some ⟨tb, 0, none⟩) m tcap) m (i64s r)) := Lib.hid (by have := hrc.stk; rwa [← HMM.out] at this)
            have hws2 : w.heap.size ≤ (w5.extBy t1).heap.size := hrc.ext.size
            clear hrc
            go_wp2_with (at_builtin; refine wpList_append_slc _ rfl (.tmp 174) (.tmp 176) 22 rfl w.heap.size 3 (.int .i64 0) 1 8 Try.underlying22 infoInt rfl (by decide) (.slice (some ⟨tb, 0, none⟩) m tcap) m (i64s r) rfl (HSC.out.alloc _) _ 1 [.int .i64 u] rfl (SlC.fresh _ #[.int .i64 u] _ 1 _ (by simp) (by decide)) (by simp) (by simp [Value.oneCell']) (by unfold maxLen; omega) (by omega) (Nat.le_trans hws2 (by simp)) ?_; intro v1 w6 hown hg1 hat1)
            go_roundw
            case rel => exact ⟨k + 1, i + 1, f2, s, r ++ [u], v1, rfl, by go_num, by go_num, Lib.hid (HRC.out.pushed HMM.out hown hg1 hat1), HA2, HFE2⟩
            case measure => simp [intOf]; omega
          | cast r x e hr hx =>
            obtain rfl : qo = 6 := e
            subst hr
            have HUN : Hid (∀ w', Calls Try.prog 62 #[.int .i64 qn, .int .i64 qk, .int .i64 x] w' fun e w1 => e = .returned (.tuple #[.int .i64 (castv qn qk x).1, .bool (castv qn qk x).2]) ∧ w' = w1) := Lib.hid fun w' => refCast_any qn qk x w'
            dsimp only at HA2 HFE2
            generalize castv qn qk x = u at HUN HA2 HFE2
            obtain ⟨u, ub⟩ := u
            dsimp only at HUN HA2 HFE2
            have hMr : M = r.length + 1 := by rw [HM.out]; simp
            obtain ⟨m, hm⟩ : ∃ m, m = r.length := ⟨_, rfl⟩
            have HMM := Lib.hid hm
            have hMm : M = m + 1 := by omega
            have hm1 : (M : Int) - 1 = (m : Int) := by omega
            obtain ⟨tb, cap', e1, -, hcap, htb⟩ := ownsRow_some HSTK.out (by omega)
            simp only [Value.slice.injEq, true_and] at e1
            obtain ⟨rfl, rfl⟩ := e1
            have hsx := own_cell1 HSTK.out m (.int .i64 x) (by rw [hm]; simp)
            have hm0 : (0 : Int) ≤ (m : Int) := by omega
            have hmM : (m : Int) < (M : Int) := by omega
            have hct := run_cut_h (P := Try.prog) 22 (by kernel_rfl) sizeInt tb M tcap m (by omega)
            have htk : (r ++ [x]).take m = r := by rw [hm]; exact List.take_left' rfl
            have HTK := Lib.hid htk
            rw [hm1]
            clear hm hMr htk hMm
            go_wp2
            ((first | (with_reducible refine region_ext2 (by kernel_rfl) (by kernel_rfl) ?_) | refine region_ext (by kernel_rfl) (by kernel_rfl) ?_); (repeat (go_big_quiet_step (exact in_same (HUN.out _)))); refine wpQuiet_nil ?_; rintro _ ⟨t1, rfl⟩)
            go_wp2
            go_roundw
            case rel =>
              have hr := HR5.out
              rw [HM.out] at hr
              have hr2 := (hr.more (Ext.by w5 t1)).top m (by simp; rw [HMM.out]; omega) u
              rw [← HM.out, HMM.out, set_last] at hr2
              rw [HMM.out]
              exact ⟨k + 1, i + 1, f2, s, r ++ [u], _, rfl, by go_num, by go_num, Lib.hid hr2, HA2, HFE2⟩
            case measure => simp [intOf]; omega
          | jump j e hn hj =>
            obtain rfl : qo = 7 := e
            obtain rfl : qn = (j : Int) := hn
            have hjL : i + 1 + j < L := by rw [HN.out.2.2.2.2.2]; exact hj
            clear hj
            go_wp2
            go_roundw
            case rel => exact ⟨k + 1, i + 1 + j, f2, s, t, _, rfl, by go_num, by go_num, HR5, HA2, HFE2⟩
            case measure => simp [intOf]; omega
          | branch j r x e hn hj hr =>
            obtain rfl : qo = 8 := e
            obtain rfl : qn = (j : Int) := hn
            subst hr
            have hjL : i + 1 + j < L := by rw [HN.out.2.2.2.2.2]; exact hj
            clear hj
            have hMr : M = t2.length + 1 := by rw [HM.out]; simp
            obtain ⟨m, hm⟩ : ∃ m, m = t2.length := ⟨_, rfl⟩
            have HMM := Lib.hid hm
            have hMm : M = m + 1 := by omega
            have hm1 : (M : Int) - 1 = (m : Int) := by omega
            obtain ⟨tb, cap', e1, -, hcap, htb⟩ := ownsRow_some HSTK.out (by omega)
            simp only [Value.slice.injEq, true_and] at e1
            obtain ⟨rfl, rfl⟩ := e1
            have hsx := own_cell1 HSTK.out m (.int .i64 x) (by rw [hm]; simp)
            have hm0 : (0 : Int) ≤ (m : Int) := by omega
            have hmM : (m : Int) < (M : Int) := by omega
            have hct := run_cut_h (P := Try.prog) 22 (by kernel_rfl) sizeInt tb M tcap m (by omega)
            have htk : (t2 ++ [x]).take m = t2 := by rw [hm]; exact List.take_left' rfl
            have HTK := Lib.hid htk
            rw [hm1]
            clear hm hMr htk hMm
            have hrc := HR5.out.cut m (by rw [← HM.out]; omega) HM.out
            rw [HTK.out] at hrc
            have HRC := Lib.hid hrc
            clear hrc
            by_cases hx0 : x = 0
            · have hxb : (x == 0) = true := by simpa using hx0
              rw [if_pos hx0] at HA2 HFE2
              clear hx0
              go_wp2
              go_roundw
              case rel => exact ⟨k + 1, i + 1 + j, f2, s, t2, _, rfl, by go_num, by go_num, HRC, HA2, HFE2⟩
              case measure => simp [intOf]; omega
            · have hxb : (x == 0) = false := by simpa using hx0
              rw [if_neg hx0] at HA2 HFE2
              clear hx0
              go_wp2
              go_roundw
              case rel => exact ⟨k + 1, i + 1, f2, s, t2, _, rfl, by go_num, by go_num, HRC, HA2, HFE2⟩
              case measure => simp [intOf]; omega
end Go.Proofs.Ytipfcfaigbeakaa

/-
  The walks of the machine (exec): a tick.
  Conditions: the machine lies in memory as it is said; its code is code.
-/
import Derived.Test.YtipfcfaigbeakaaJExecB
namespace Go.Proofs.Ytipfcfaigbeakaa
open Go.RowKit
set_option linter.unusedSimpArgs false
set_option linter.unusedVariables false
set_option maxRecDepth 100000

theorem sizeInt (w : World) : (sizeOf (Try.prog.elem 22)).run Try.prog w = .ok 1 w := by kernel_rfl
theorem sizeInt1 : (Try.prog.info? 3).map (·.size) = some 1 := by kernel_rfl
theorem splice_i64s (L : List Int) (off : Nat) (l : List Int) : splice (i64s L) off (i64s l) = i64s (splice L off l) := splice_map _ _ _ _
theorem slots0_is {c : CodeV} {cs ins : List Int} (h : ins.length + c.outs.toNat + cs.length ≤ c.kinds.length) : splice (splice (List.replicate c.kinds.length 0) 0 ins) (ins.length + c.outs.toNat) cs = slots0 c cs ins := splice_two 0 _ _ _ _ h
theorem slots0_len {c : CodeV} {cs ins : List Int} (h : ins.length + c.outs.toNat + cs.length ≤ c.kinds.length) : (slots0 c cs ins).length = c.kinds.length := by
  simp [slots0]; omega
section
variable {g B : Nat} {c : CodeV} {lv kv iv bv sv tv : Value} {pc : Int} {ends : Bool} {cs s t : List Int} {w w' : World}
/-- The slots lie in a new row. -/
theorem MS.slotted (h : MS g B c lv kv iv bv sv tv pc ends cs s t w) {sv' : Value} {s' : List Int} {b : Nat} (hk : Kb [g] w w') (hb : BoxV g (machL c lv kv iv bv sv' tv pc ends) w') (hr : w'.ownsRow B 3 1 sv' s'.length (i64s s')) (hs : sv'.ownBlock = some b) (hn : w.heap.size ≤ b) : MS g B c lv kv iv bv sv' tv pc ends cs s' t w' := by
  have hS : ∀ v ∈ [lv, kv, iv, bv, sv, tv], ∀ b ∈ [g], v.ownBlock ≠ some b := fun v hv b hb => by rw [List.mem_singleton.1 hb]; exact h.ng v hv
  have hlt : ∀ v ∈ [lv, kv, iv, bv, tv], ∀ b, v.ownBlock = some b → b < w.heap.size := by
    intro v hv b hvb
    simp only [List.mem_cons, List.not_mem_nil, or_false] at hv
    rcases hv with rfl | rfl | rfl | rfl | rfl
    · exact (h.cells.lt b hvb).2
    · exact (h.kinds.lt b hvb).2
    · exact (h.init.lt b hvb).2
    · exact (h.body.lt b hvb).2
    · exact (h.stack.lt b hvb).2
  refine ⟨hb, hk.row h.cells (hS lv (by simp)), hk.row h.kinds (hS kv (by simp)), hk.row h.init (hS iv (by simp)), hk.row h.body (hS bv (by simp)), hr, hk.row h.stack (hS tv (by simp)), Nat.le_trans h.size hk.size, ?_, ?_, ?_, h.nt⟩
  · intro v hv
    simp only [List.mem_cons, List.not_mem_nil, or_false] at hv
    rcases hv with rfl | rfl | rfl | rfl | rfl | rfl
    · exact h.ng _ (by simp)
    · exact h.ng _ (by simp)
    · exact h.ng _ (by simp)
    · exact h.ng _ (by simp)
    · intro e; rw [hs] at e; have := h.box.lt; have := Option.some.inj e; omega
    · exact h.ng _ (by simp)
  · intro v hv b' hl
    simp only [List.mem_cons, List.not_mem_nil, or_false] at hv
    rcases hv with rfl | rfl | rfl | rfl | rfl
    · exact h.nl _ (by simp) b' hl
    · exact h.nl _ (by simp) b' hl
    · exact h.nl _ (by simp) b' hl
    · intro e; rw [hs] at e; have := hlt lv (by simp) b' hl; have := Option.some.inj e; omega
    · exact h.nl _ (by simp) b' hl
  · intro v hv b' hl e
    rw [hs] at hl
    have := hlt v (by simp only [List.mem_cons, List.not_mem_nil, or_false] at hv ⊢; rcases hv with h | h | h | h <;> simp [h]) b' e
    have := Option.some.inj hl
    omega
/-- The slots' row is written. -/
theorem MS.reslot (h : MS g B c lv kv iv bv sv tv pc ends cs s t w) {s' : List Int} (hr : w'.ownsRow B 3 1 sv s'.length (i64s s')) (hk : Kb sv.ownBlock.toList w w') : MS g B c lv kv iv bv sv tv pc ends cs s' t w' := by
  have hS : ∀ v ∈ [kv, iv, bv, tv], ∀ b ∈ sv.ownBlock.toList, v.ownBlock ≠ some b := fun v hv b hb => h.ns v hv b (Option.mem_toList.1 hb)
  exact ⟨h.box.kb hk (fun hb => h.ng sv (by simp) (Option.mem_toList.1 hb)), hk.row h.cells (fun b hb e => h.nl sv (by simp) b e (Option.mem_toList.1 hb)), hk.row h.kinds (hS kv (by simp)), hk.row h.init (hS iv (by simp)), hk.row h.body (hS bv (by simp)), hr, hk.row h.stack (hS tv (by simp)), Nat.le_trans h.size hk.size, h.ng, h.nl, h.ns, h.nt⟩
/-- The cells' row is written. -/
theorem MS.recell (h : MS g B c lv kv iv bv sv tv pc ends cs s t w) {cs' : List Int} (hr : w'.ownsRow B 3 1 lv cs'.length (i64s cs')) (hk : Kb lv.ownBlock.toList w w') : MS g B c lv kv iv bv sv tv pc ends cs' s t w' := by
  have hS : ∀ v ∈ [kv, iv, bv, sv, tv], ∀ b ∈ lv.ownBlock.toList, v.ownBlock ≠ some b := fun v hv b hb => h.nl v hv b (Option.mem_toList.1 hb)
  exact ⟨h.box.kb hk (fun hb => h.ng lv (by simp) (Option.mem_toList.1 hb)), hr, hk.row h.kinds (hS kv (by simp)), hk.row h.init (hS iv (by simp)), hk.row h.body (hS bv (by simp)), hk.row h.slots (hS sv (by simp)), hk.row h.stack (hS tv (by simp)), Nat.le_trans h.size hk.size, h.ng, h.nl, h.ns, h.nt⟩
/-- The machine's own block is written: place and end, the stack cut. -/
theorem MS.own (h : MS g B c lv kv iv bv sv tv pc ends cs s t w) {tv' : Value} {pc' : Int} {ends' : Bool} {t' : List Int} (hk : Kb [g] w w') (hb : BoxV g (machL c lv kv iv bv sv tv' pc' ends') w') (hr : w.ownsRow B 3 1 tv' t'.length (i64s t')) (he : tv'.ownBlock = tv.ownBlock) : MS g B c lv kv iv bv sv tv' pc' ends' cs s t' w' :=
  h.stacked hb ⟨hk.row hr (fun b hb => by rw [List.mem_singleton.1 hb, he]; exact h.ng tv (by simp)), by rw [he]; exact h.ng tv (by simp), Nat.le_trans h.size hk.size⟩ (.inl he) (kb_one hk)
end
/-- A new block may be written: it is no old one. -/
theorem Kb.drop_new {b : Nat} {S : List Nat} {w w' : World} (h : Kb (b :: S) w w') (hb : w.heap.size ≤ b) : Kb S w w' :=
  ⟨h.os, h.tape, h.output, h.size, fun k hk h1 => h.block k hk (fun e => (List.mem_cons.1 e).elim (fun e => by omega) h1)⟩
/-- The table of what instructions do. -/
def TabM (w : World) (T : Nat) : Prop := T < w.heap.size ∧ ∀ (j : Nat) (u : Value), doCells[j]? = some u → w.cell? ⟨T, j, none⟩ = some u
theorem TabM.new (w : World) (t : TypeId) : TabM (w.alloc (.cells doCells t)) w.heap.size := ⟨by simp, fun j u hj => by rw [cell_of_row _ _ j doCells t (0, 0) (heap_alloc_last w _)]; exact hj⟩
theorem TabM.kb {w w' : World} {T : Nat} {S : List Nat} (h : TabM w T) (hk : Kb S w w') (hT : T ∉ S) : TabM w' T := ⟨Nat.lt_of_lt_of_le h.1 hk.size, fun j u hj => hk.cell hT (h.2 j u hj)⟩
/-- Where the loop stands: on its way, or at its end. -/
def StM (c : CodeV) (fin : Known) (R : List Int × Nat) (s t : List Int) (i k f : Nat) (ends : Bool) : Prop :=
  (ends = false ∧ AtV c fin s t i k ∧ c.body.length ≤ i + f ∧ endV c.body f s t i k = R) ∨ (ends = true ∧ t = [] ∧ R = (s, k) ∧ ValsK c.kinds s)
/-- What a tick leaves. -/
def TickM (g B : Nat) (c : CodeV) (lv kv iv bv tv : Value) (r : TickV) (w : World) (e : Ending) (w' : World) : Prop :=
  ∃ (v sv' tv' : Value) (pc' : Int) (ends' : Bool) (s' : List Int) (w5 : World), e = .returned (.tuple #[v, .int .i64 r.n, .int .i64 0]) ∧ MS g B c lv kv iv bv sv' tv' pc' ends' r.cells s' [] w5 ∧ Ext w5 w' ∧ w'.ownsRow w5.heap.size 3 1 v r.outs.length (i64s r.outs) ∧ (∃ b, w.heap.size ≤ b ∧ sv'.ownBlock = some b) ∧ (tv'.ownBlock = tv.ownBlock ∨ ∃ b, w.heap.size ≤ b ∧ tv'.ownBlock = some b) ∧ Kb (g :: (lv.ownBlock.toList ++ tv.ownBlock.toList)) w w5
set_option maxHeartbeats 4000000 in
theorem tick_good {g B : Nat} {c : CodeV} {lv kv iv bv sv tv insv : Value} {pc : Int} {ends : Bool} {cs s t ins : List Int} {w : World} {fin : Known} (h : MS g B c lv kv iv bv sv tv pc ends cs s t w) (hins : SlC w insv ins.length (i64s ins)) (hig : ins ≠ [] → insv.ownBlock ≠ some g) (F : Formed c) (hbl : c.body.length ≤ 60000) (hkl : c.kinds.length ≤ 8000) (hst : c.stack ≤ 64) (FI : Fin c fin) (hI : ∀ q ∈ c.body, I64 q.op ∧ I64 q.n ∧ I64 q.k) (hII : ∀ x ∈ ins, I64 x) (hl : (ins.length : Int) = c.ins) (hok : insOk c ins = true) (hcs : CellsOk c cs) :
    Calls Try.prog 30 #[.pointer (some ⟨g, 0, none⟩), insv] w (TickM g B c lv kv iv bv tv (tickV c cs ins) w) := by
  obtain ⟨Q, hQ⟩ : ∃ Q, Q = TickM g B c lv kv iv bv tv (tickV c cs ins) w := ⟨_, rfl⟩
  rw [← hQ]
  have HQ := Lib.hid hQ
  clear hQ
  have f1 := F.sum
  have f2 := F.outs
  have f3 := F.cells
  have f4 := F.ins
  have hcl := hcs.len F
  obtain ⟨a, cap, rfl, h1, h2, hc⟩ := id hins
  obtain ⟨ka, kcap, rfl, hk1, hk2, hkc⟩ := SlC.of_owns h.kinds
  obtain ⟨sa, sn, scap, rfl⟩ := own_slice3 h.slots
  obtain ⟨ta, tn, tcap, rfl⟩ := own_slice3 h.stack
  obtain ⟨la, lcap, rfl, -, -, -⟩ := SlC.of_owns h.cells
  have hbpos : 0 < c.body.length := by
    have := F.last
    cases hb : c.body with
    | nil => rw [hb] at this; cases this
    | cons => simp
  obtain ⟨b3, cap3, rfl, -, hcap3, -⟩ := ownsRow_some h.body hbpos
  have HC := Lib.hid hc
  have HK := Lib.hid hkc
  have HH := Lib.hid h
  have HINS := Lib.hid hins
  have HIG := Lib.hid hig
  obtain ⟨n, hn⟩ : ∃ n, n = ins.length := ⟨_, rfl⟩
  obtain ⟨K, hK⟩ : ∃ K, K = c.kinds.length := ⟨_, rfl⟩
  obtain ⟨O, hO⟩ : ∃ O, O = c.outs.toNat := ⟨_, rfl⟩
  obtain ⟨C, hC⟩ : ∃ C, C = cs.length := ⟨_, rfl⟩
  obtain ⟨N, hN⟩ : ∃ N : Nat, N = n + O := ⟨_, rfl⟩
  have q0 := h.box.cells 0 _ rfl
  have q1 : w.cell? ⟨g, 1, none⟩ = some (.slice ka K kcap) := by rw [hK]; exact h.box.cells 1 _ rfl
  have q2 : w.cell? ⟨g, 2, none⟩ = some (.int .i64 (n : Int)) := by rw [hn, hl]; exact h.box.cells 2 _ rfl
  have q3 : w.cell? ⟨g, 3, none⟩ = some (.int .i64 (O : Int)) := by rw [hO, Int.toNat_of_nonneg f2]; exact h.box.cells 3 _ rfl
  have q4 : w.cell? ⟨g, 4, none⟩ = some (.int .i64 (C : Int)) := by rw [hC, hcl, Int.toNat_of_nonneg f3]; exact h.box.cells 4 _ rfl
  have q7 := h.box.cells 7 _ rfl
  have q8 := h.box.cells 8 _ rfl
  have q9 := h.box.cells 9 _ rfl
  have q10 := h.box.cells 10 _ rfl
  have q11 := h.box.cells 11 _ rfl
  have gl := h.box.lt
  have gf := h.box.fz
  have HN := Lib.hid (And.intro hn (And.intro hK (And.intro hO (And.intro hC hN))))
  have hNK : N + C ≤ K := by omega
  have hK8 : K ≤ 8000 := by omega
  have hnK : n ≤ K := by omega
  have hw1 : IntKind.i64.wrap ((n : Int) + (O : Int)) = (N : Int) := by rw [IntWalk.i64_in _ (by omega)]; omega
  have HHY := Lib.hid (And.intro F (And.intro hbl (And.intro hst (And.intro FI (And.intro hI (And.intro hII (And.intro hok (And.intro hcs (And.intro hl hcl)))))))))
  rw [← hn]
  clear h hins hig F hbl hkl hst FI hI hII hl hok hcs f1 f2 f3 f4 hcl h1 h2 hc hk1 hk2 hkc hn hK hO hC hN
  go_enter Try.func30, Try.ntmps30
  go_wp2
  go_loop [26] (fun x => ∃ k : Nat, k ≤ n ∧ x = .int .i64 k) (fun x => n - (intOf x).toNat)
  case atStart => exact ⟨0, Nat.zero_le _, rfl⟩
  case round =>
    obtain ⟨k, hkn, rfl⟩ := hrel
    by_cases hlt : k < n
    · have hki : k < ins.length := by rw [← HN.out.1]; exact hlt
      have hkk : k < c.kinds.length := by rw [← HN.out.2.1]; omega
      have hkK : (k : Int) < (K : Int) := by omega
      obtain ⟨x, hx⟩ : ∃ x, ins[k]? = some x := ⟨_, List.getElem?_eq_getElem hki⟩
      obtain ⟨y, hy⟩ : ∃ y, c.kinds[k]? = some y := ⟨_, List.getElem?_eq_getElem hkk⟩
      obtain ⟨b, o, rfl, c1⟩ := HC.out k (.int .i64 x) (by simp [hx])
      obtain ⟨b2, o2, rfl, c2⟩ := HK.out k (.int .i64 y) (by simp [hy])
      have hi : isk y x = true := insOk_at HHY.out.2.2.2.2.2.2.1 hy hx
      clear hx hy
      go_wp2_with (go_at_call 58; refine (bvIs_any _ _ _).mono ?_; rintro e w1 ⟨rfl, rfl⟩)
      go_round
      case rel => exact ⟨k + 1, by omega, by go_num⟩
      case measure => simp [intOf]; omega
    · obtain rfl : n = k := by omega
      go_upto_region 10 with fail
      (refine region_drew (by kernel_rfl) (by kernel_rfl) ?_; (repeat (go_big_quiet_step (fail))); refine wpQuiet_nil ?_; rintro _ ⟨nq, rfl⟩)
      have hmk := run_make_row' (P := Try.prog) 22 3 (.int .i64 0) 8 Try.underlying22 infoInt rfl .i64 .i64 K (by omega) (by omega)
      have hx1 : Ext w ((w.drewN nq).alloc (.cells (madeCells #[.int .i64 0] K) 3)) := ((Ext.refl w).drewN nq).alloc _
      have e8 := hx1.cell q8
      have ef8 := (hx1.frozens g 8 gl).trans (gf 8)
      go_upto_region 12 with fail
      have hm2 : MS g B c (.slice la cs.length lcap) (.slice ka c.kinds.length kcap) iv (.slice (some ⟨b3, 0, none⟩) c.body.length cap3) (.slice (some ⟨w.heap.size, 0, none⟩) K K) (.slice ta tn tcap) pc ends cs (List.replicate K 0) t (((w.drewN nq).alloc (.cells (madeCells #[.int .i64 0] K) 3)).setCell ⟨g, 8, none⟩ (.slice (some ⟨w.heap.size, 0, none⟩) K K)) := by
        refine HH.out.slotted ((Kb.of_ext hx1).trans (Kb.set _ g 8 (by simp) _)) (((HH.out.box.ext hx1).put 8 _).cast rfl) ?_ rfl (Nat.le_refl _)
        have := own_made (e := 3) (K := K) w.heap.size (.int .i64 0) HH.out.size (by unfold maxLen; omega) (set_block (C := g) (by omega) 8 (.slice (some ⟨w.heap.size, 0, none⟩) K K) (heap_alloc_at (w.drewN nq) _ w.heap.size rfl))
        simpa using this
      have HK2 : Hid (Kb [g] w (((w.drewN nq).alloc (.cells (madeCells #[.int .i64 0] K) 3)).setCell ⟨g, 8, none⟩ (.slice (some ⟨w.heap.size, 0, none⟩) K K))) := Lib.hid ((Kb.of_ext hx1).trans (Kb.set _ g 8 (by simp) _))
      generalize ((w.drewN nq).alloc (.cells (madeCells #[.int .i64 0] K) 3)).setCell ⟨g, 8, none⟩ (.slice (some ⟨w.heap.size, 0, none⟩) K K) = w2 at hm2 HK2 ⊢
      obtain ⟨b, hb⟩ : ∃ b, b = w.heap.size := ⟨_, rfl⟩
      rw [← hb] at hm2 ⊢
      have HBB := Lib.hid hb
      clear hx1 e8 ef8 hb hmk q0 q1 q2 q3 q4 q7 q8 q9 q10 q11 gl gf
      have hs2 : SlC w2 (.slice a n cap) n (i64s ins) := by
        have := HINS.out.kb0 HK2.out (fun e b hb => by rw [List.mem_singleton.1 hb]; exact HIG.out (i64s_ne e))
        rwa [← HN.out.1] at this
      have hpos2 : 0 < n → (∃ g', (Value.slice (some ⟨b, 0, none⟩) K K).ownBlock = some g' ∧ some (⟨b, 0, none⟩ : Addr) = some ⟨g', 0, none⟩) ∧ ∃ ad, a = some ad ∧ ∀ j u, (i64s ins)[j]? = some u → w2.cell? (ad.add j) = some u := fun h0 => ⟨⟨b, rfl, rfl⟩, slc_src hs2 (by simp; rw [← HN.out.1]; exact h0)⟩
      have hrow2 := hm2.slots
      rw [List.length_replicate] at hrow2
      have HM2 := Lib.hid hm2
      have HP2 := Lib.hid hpos2
      have HR2 := Lib.hid hrow2
      have HL2 : Hid ((i64s ins).length = n) := Lib.hid (by simp; exact HN.out.1.symm)
      have q8 := hm2.box.cells 8 _ rfl
      clear hs2 hpos2 hrow2 hm2
      go_upto_region 13 with ((with_reducible refine wpList_copy_row' rfl (.tmp 63) (.tmp 64) 22 22 rfl 3 Try.underlying22 sizeInt1 B K 3 (.slice (some ⟨b, 0, none⟩) K K) (i64s (List.replicate K 0)) HR2.out (some ⟨b, 0, none⟩) a K K n cap rfl rfl 0 (i64s ins) HL2.out hnK (by omega) (one_i64s _) HP2.out ?_); intro w3 hr3 hk3)
      go_frame
      have hS1 : (splice (List.replicate K 0) 0 ins).length = K := by rw [length_splice _ _ _ (by rw [List.length_replicate, ← HN.out.1]; omega), List.length_replicate]
      have HM3 := Lib.hid (HM2.out.reslot (s' := splice (List.replicate K 0) 0 ins) (by rw [hS1, ← splice_i64s]; exact hr3) hk3)
      have HK3 : Hid (Kb [g, b] w w3) := Lib.hid ((HK2.out.mono (by simp)).trans (hk3.mono (by simp [Value.ownBlock])))
      have q8 := HM3.out.box.cells 8 _ rfl
      have q0 : w3.cell? ⟨g, 0, none⟩ = some (.slice la C lcap) := by rw [HN.out.2.2.2.1]; exact HM3.out.box.cells 0 _ rfl
      obtain ⟨p, hp, hcut⟩ := run_cut_l (P := Try.prog) 22 (by kernel_rfl) sizeInt b K K N (by omega)
      have HP3 : Hid (0 < C → (∃ g', (Value.slice (some ⟨b, 0, none⟩) K K).ownBlock = some g' ∧ some p = some (⟨g', N, none⟩ : Addr)) ∧ ∃ ad, la = some ad ∧ ∀ j u, (i64s cs)[j]? = some u → w3.cell? (ad.add j) = some u) := Lib.hid fun h0 => ⟨⟨b, rfl, congrArg some (hp (by omega))⟩, slc_src (n := cs.length) (cap := lcap) (SlC.of_owns HM3.out.cells) (by simp; rw [← HN.out.2.2.2.1]; exact h0)⟩
      have HL3 : Hid ((i64s cs).length = C) := Lib.hid (by simp; exact HN.out.2.2.2.1.symm)
      have HR3 := Lib.hid (hr3)
      have HS1 := Lib.hid hS1
      have hCK : C ≤ K - N := by omega
      clear hr3 hk3 hp hS1
      (refine region_drew_tail 11 (by kernel_rfl) (by kernel_rfl) ?_; simp only [List.take_succ_cons, List.take_zero, List.drop_succ_cons, List.drop_zero]; (repeat (go_big_quiet_step (fail))); refine wpQuiet_nil ?_; rintro _ ⟨nq, rfl⟩)
      have hrow3 := ownsRow_ext HR3.out ((Ext.refl w3).drewN nq)
      have hpos3 : 0 < C → (∃ g', (Value.slice (some ⟨b, 0, none⟩) K K).ownBlock = some g' ∧ some p = some (⟨g', N, none⟩ : Addr)) ∧ ∃ ad, la = some ad ∧ ∀ j u, (i64s cs)[j]? = some u → (w3.drewN nq).cell? (ad.add j) = some u := HP3.out
      refine wpList_copy_row' rfl (.tmp 71) (.tmp 76) 22 22 rfl 3 Try.underlying22 sizeInt1 B K 3 (.slice (some ⟨b, 0, none⟩) K K) (splice (i64s (List.replicate K 0)) 0 (i64s ins)) hrow3 (some p) la (K - N) (K - N) C lcap rfl rfl N (i64s cs) HL3.out hCK hNK (one_i64s _) hpos3 ?_
      intro w4 hr4 hk4
      go_upto_region 14 with fail
      go_frame
      have hsl : ins.length + c.outs.toNat + cs.length ≤ c.kinds.length := by rw [← HN.out.1, ← HN.out.2.1, ← HN.out.2.2.1, ← HN.out.2.2.2.1]; have := HN.out.2.2.2.2; omega
      have HSL := Lib.hid hsl
      have HM4 := Lib.hid ((HM3.out.ext ((Ext.refl w3).drewN nq)).reslot (s' := slots0 c cs ins) (by
        rw [slots0_len HSL.out, ← slots0_is HSL.out, ← splice_i64s, ← splice_i64s, ← HN.out.1, ← HN.out.2.1, ← HN.out.2.2.1, ← HN.out.2.2.2.2]; exact hr4) hk4)
      have HK4 : Hid (Kb [g, b] w w4) := Lib.hid ((HK3.out.trans (Kb.of_ext ((Ext.refl w3).drewN nq))).trans (hk4.mono (by simp [Value.ownBlock])))
      clear hr4 hk4 hrow3 hpos3 hCK hcut q8 q0 hsl
      have q9 := HM4.out.box.cells 9 _ rfl
      have q10 := HM4.out.box.cells 10 _ rfl
      have q11 := HM4.out.box.cells 11 _ rfl
      have gl := HM4.out.box.lt
      have gf := HM4.out.box.fz
      have hcut0 := run_cut_0 (P := Try.prog) 22 (by kernel_rfl) sizeInt ta tn tcap
      go_upto_region 15 with fail
      have HK5g : Hid (Kb [g] w4 (((w4.setCell ⟨g, 9, none⟩ (.slice ta 0 tcap)).setCell ⟨g, 10, none⟩ (.int .i64 0)).setCell ⟨g, 11, none⟩ (.bool false))) := Lib.hid (((Kb.set w4 g 9 (by simp) _).trans (Kb.set _ g 10 (by simp) _)).trans (Kb.set _ g 11 (by simp) _))
      have HM5 := Lib.hid (HM4.out.own (tv' := .slice ta 0 tcap) (pc' := 0) (ends' := false) (t' := []) HK5g.out ((((HM4.out.box.put 9 (.slice ta 0 tcap)).put 10 (.int .i64 0)).put 11 (.bool false)).cast rfl) (own_cut0 HM4.out.stack) (by cases ta <;> rfl))
      have HK5 := Lib.hid (HK4.out.trans (HK5g.out.mono (T := [g, b]) (by simp)))
      generalize ((w4.setCell ⟨g, 9, none⟩ (.slice ta 0 tcap)).setCell ⟨g, 10, none⟩ (.int .i64 0)).setCell ⟨g, 11, none⟩ (.bool false) = w5 at HM5 HK5 ⊢
      clear HK5g q9 q10 q11 gl gf hcut0
      go_wp2_with (first | (go_at_call 59; refine (does_any _).mono ?_; rintro e w6 ⟨rfl, hx6⟩) | (refine wpList_store_last rfl 108 (.tmp 11) (.tmp 92) rfl _ _ _ _ rfl rfl (by simp) (by kernel_rfl) (by kernel_rfl) (by kernel_rfl) ?_))
      have hx7 : Ext w5 (w6.alloc (.cells doCells 108)) := hx6.alloc _
      have HT7 : Hid (TabM (w6.alloc (.cells doCells 108)) w6.heap.size) := Lib.hid (TabM.new w6 _)
      have HM7 := Lib.hid (HM5.out.ext hx7)
      have HK7 := Lib.hid (HK5.out.trans (Kb.of_ext hx7))
      have HTS : Hid (w6.heap.size < (w6.alloc (.cells doCells 108)).heap.size ∧ w5.heap.size ≤ w6.heap.size) := Lib.hid ⟨by simp, hx6.size⟩
      obtain ⟨T, hT⟩ : ∃ T, T = w6.heap.size := ⟨_, rfl⟩
      rw [← hT] at HT7 HTS ⊢
      generalize w6.alloc (.cells doCells 108) = w7 at HM7 HK7 HT7 HTS hx7 ⊢
      have HTG : Hid (T ≠ g ∧ T ≠ b ∧ (Value.slice ta 0 tcap).ownBlock ≠ some T ∧ (Value.slice la cs.length lcap).ownBlock ≠ some T) := Lib.hid ⟨by have := HM5.out.box.lt; have := HTS.out.2; omega, by have := (HM5.out.slots.lt b rfl).2; have := HTS.out.2; omega, fun e => by have := (HM5.out.stack.lt T e).2; have := HTS.out.2; omega, fun e => by have := (HM5.out.cells.lt T e).2; have := HTS.out.2; omega⟩
      clear hT hx6 hx7
      obtain ⟨R, hR⟩ : ∃ R, R = endV c.body c.body.length (slots0 c cs ins) [] 0 0 := ⟨_, rfl⟩
      have HR := Lib.hid hR
      obtain ⟨L, hL⟩ : ∃ L, L = c.body.length := ⟨_, rfl⟩
      have HLL := Lib.hid hL
      have hL6 : L ≤ 60000 := by rw [hL]; exact HHY.out.2.1
      clear hR hL
      go_loopw [12] (fun x wr => ∃ (k i f : Nat) (s t : List Int) (tv' : Value) (ends : Bool), k ≤ L ∧ x = .int .i64 k ∧ Hid (MS g B c (.slice la cs.length lcap) (.slice ka c.kinds.length kcap) iv (.slice (some ⟨b3, 0, none⟩) c.body.length cap3) (.slice (some ⟨b, 0, none⟩) K K) tv' (i : Int) ends cs s t wr) ∧ Hid (TabM wr T) ∧ Hid (w7.heap.size ≤ wr.heap.size) ∧ Hid (tv'.ownBlock ≠ some T) ∧ Hid (StM c fin R s t i k f ends) ∧ Hid (Kb (g :: b :: (Value.slice ta 0 tcap).ownBlock.toList) w wr) ∧ Hid (tv'.ownBlock = (Value.slice ta 0 tcap).ownBlock ∨ ∃ b', w.heap.size ≤ b' ∧ tv'.ownBlock = some b')) (fun x _ => L + 1 - (intOf x).toNat)
      case atStart =>
        refine ⟨0, 0, c.body.length, slots0 c cs ins, [], .slice ta 0 tcap, false, Nat.zero_le _, rfl, HM7, HT7, Lib.hid (Nat.le_refl _), Lib.hid HTG.out.2.2.1, Lib.hid (.inl ⟨rfl, ⟨?_, ?_, ⟨[], HHY.out.2.2.2.1.first, ValsK.nil⟩, Nat.le_refl _⟩, by omega, HR.out.symm⟩), Lib.hid (HK7.out.mono (by simp)), Lib.hid (.inl rfl)⟩
        · exact hbpos
        · exact slots0_vals HHY.out.1 HHY.out.2.2.2.2.2.2.2.1 HHY.out.2.2.2.2.2.2.2.2.1 HHY.out.2.2.2.2.2.1 HHY.out.2.2.2.2.2.2.1
      case round =>
        obtain ⟨k, i, f, s1, t1, tv', en, hkL, rfl, HMr, HTr, HSr, HTv, HST, HKr, HOr⟩ := hrel
        cases en with
        | true =>
          have hR1 : t1 = [] ∧ R = (s1, k) ∧ ValsK c.kinds s1 := by
            rcases HST.out with ⟨e, _⟩ | ⟨_, e⟩
            · cases e
            · exact e
          have HR1 := Lib.hid hR1
          have hs1 : s1.length = K := by rw [HN.out.2.1]; exact hR1.2.2.1.symm
          have q0 : wr.cell? ⟨g, 0, none⟩ = some (.slice la C lcap) := by rw [HN.out.2.2.2.1]; exact HMr.out.box.cells 0 _ rfl
          have q4 : wr.cell? ⟨g, 4, none⟩ = some (.int .i64 (C : Int)) := by rw [HN.out.2.2.2.1, HHY.out.2.2.2.2.2.2.2.2.2, Int.toNat_of_nonneg HHY.out.1.cells]; exact HMr.out.box.cells 4 _ rfl
          have q8 := HMr.out.box.cells 8 _ rfl
          have q11 := HMr.out.box.cells 11 _ rfl
          obtain ⟨E, hE⟩ : ∃ E : Nat, E = N + C := ⟨_, rfl⟩
          have hw2 : IntKind.i64.wrap ((N : Int) + (C : Int)) = (E : Int) := by rw [IntWalk.i64_in _ (by omega)]; omega
          obtain ⟨p2, hp2, hcut2⟩ := run_cut_lh (P := Try.prog) 22 (by kernel_rfl) sizeInt b K K N E (by omega) (by omega)
          have hrowS : wr.ownsRow B 3 1 (.slice (some ⟨b, 0, none⟩) K K) K (i64s s1) := by have := HMr.out.slots; rwa [hs1] at this
          have HLC : Hid ((i64s ((s1.drop N).take C)).length = E - N) := Lib.hid (by simp [hs1]; omega)
          have HPC : Hid (0 < E - N → (∃ g', (Value.slice la cs.length lcap).ownBlock = some g' ∧ la = some (⟨g', 0, none⟩ : Addr)) ∧ ∃ ad, some p2 = some ad ∧ ∀ j u, (i64s ((s1.drop N).take C))[j]? = some u → wr.cell? (ad.add j) = some u) := Lib.hid fun h0 => by
            refine ⟨?_, p2, rfl, ?_⟩
            · obtain ⟨g', cap', e1, -⟩ := ownsRow_some HMr.out.cells (by rw [← HN.out.2.2.2.1]; omega)
              simp only [Value.slice.injEq] at e1
              exact ⟨g', by rw [e1.1]; rfl, e1.1⟩
            · intro j u hu
              refine own_piece hrowS N E p2 (fun h => hp2 (by omega)) (by omega) (by omega) j u ?_
              rw [show E - N = C by omega]
              simpa [List.map_take, List.map_drop] using hu
          have hE1 : E - N ≤ C := by omega
          have hE2 : 0 + (E - N) ≤ C := by omega
          have HRC : Hid (wr.ownsRow B 3 1 (.slice la cs.length lcap) C (i64s cs)) := Lib.hid (by rw [HN.out.2.2.2.1]; exact HMr.out.cells)
          have HEC : Hid (E = N + C) := Lib.hid hE
          have HS1L := Lib.hid hs1
          clear hR1 hs1 hrowS hp2 hE
          go_upto_region 22 with fail
          (refine region_drew_tail 17 (by kernel_rfl) (by kernel_rfl) ?_; simp only [List.take_succ_cons, List.take_zero, List.drop_succ_cons, List.drop_zero]; (repeat (go_big_quiet_step (fail))); refine wpQuiet_nil ?_; rintro _ ⟨nq, rfl⟩)
          have hrowC := ownsRow_ext HRC.out ((Ext.refl wr).drewN nq)
          have hposC : 0 < E - N → (∃ g', (Value.slice la cs.length lcap).ownBlock = some g' ∧ la = some (⟨g', 0, none⟩ : Addr)) ∧ ∃ ad, some p2 = some ad ∧ ∀ j u, (i64s ((s1.drop N).take C))[j]? = some u → (wr.drewN nq).cell? (ad.add j) = some u := HPC.out
          refine wpList_copy_row' rfl (.tmp 128) (.tmp 140) 22 22 rfl 3 Try.underlying22 sizeInt1 B C 3 (.slice la cs.length lcap) (i64s cs) hrowC la (some p2) C lcap (E - N) (K - N) rfl rfl 0 (i64s ((s1.drop N).take C)) HLC.out hE1 hE2 (one_i64s _) hposC ?_
          intro w8 hr8 hk8
          go_upto_region 23 with fail
          go_frame
          have hcl8 : ((s1.drop N).take C).length = C := by have := HLC.out; have := HEC.out; simp only [List.length_map] at *; omega
          have HM8 := Lib.hid ((HMr.out.ext ((Ext.refl wr).drewN nq)).recell (cs' := (s1.drop N).take C) (by
            rw [splice_i64s, splice_all _ _ (by rw [hcl8]; exact HN.out.2.2.2.1)] at hr8
            rw [hcl8]; exact hr8) hk8)
          have HK8 : Hid (Kb (b :: g :: ((Value.slice la cs.length lcap).ownBlock.toList ++ (Value.slice ta 0 tcap).ownBlock.toList)) w w8) := Lib.hid (((HKr.out.mono (by simp; intro x hx; simp [hx])).trans (Kb.of_ext ((Ext.refl wr).drewN nq))).trans (hk8.mono (by intro x hx; simp [hx])))
          have HCL8 := Lib.hid hcl8
          clear hr8 hk8 hrowC hposC hcut2 q0 q4 q8 q11 hw2 hE1 hE2 hcl8
          obtain ⟨p3, hp3, hcut3⟩ := run_cut_lh (P := Try.prog) 22 (by kernel_rfl) sizeInt b K K n N (by have := HN.out.2.2.2.2; omega) (by omega)
          have q8 := HM8.out.box.cells 8 _ rfl
          have q2 : w8.cell? ⟨g, 2, none⟩ = some (.int .i64 (n : Int)) := by rw [HN.out.1, HHY.out.2.2.2.2.2.2.2.2.1]; exact HM8.out.box.cells 2 _ rfl
          have HSO : Hid (SlC w8 (.slice (some p3) (N - n) (K - n)) (N - n) (i64s ((s1.drop n).take (N - n)))) := Lib.hid (by
            have hrow8 := HM8.out.slots
            rw [HS1L.out] at hrow8
            refine ⟨some p3, K - n, rfl, by omega, by unfold maxLen; omega, fun j u hu => ?_⟩
            have := own_piece hrow8 n N p3 (fun h => hp3 (by omega)) (by have := HN.out.2.2.2.2; omega) (by omega) j u (by simpa [List.map_take, List.map_drop] using hu)
            have hj : j < N - n := by have := (List.getElem?_eq_some_iff.1 hu).1; simp at this; omega
            have e := hp3 (by omega)
            subst e
            exact ⟨b, n, rfl, by rw [show (⟨b, n, none⟩ : Addr).add j = ⟨b, n + j, none⟩ by by_cases h0 : j = 0 <;> simp [Addr.add, h0]] at this; exact this⟩)
          have HLO : Hid ((i64s ((s1.drop n).take (N - n))).length = (N - n) * 1) := Lib.hid (by simp [HS1L.out]; omega)
          have hN8 : N - n ≤ 8000 := by omega
          clear hp3
          go_region_held3 (fun w' => w'.cell? ⟨g, 8, none⟩ = some (.slice (some ⟨b, 0, none⟩) K K) ∧ w'.cell? ⟨g, 2, none⟩ = some (.int .i64 (n : Int)))
            (first | exact ⟨q8, q2⟩ | exact ⟨hE9.cell q8, hE9.cell q2⟩)
            ((refine step_append_slc _ rfl (.const (.slice none 0 0)) (.tmp 151) 22 rfl w8.heap.size 3 (.int .i64 0) 1 8 Try.underlying22 infoInt rfl (by decide) (.slice none 0 0) 0 [] rfl (own_nil _ _ _ _) _ (N - n) (i64s ((s1.drop n).take (N - n))) rfl (HSO.out.ext (Ext.drew (Ext.refl w8))) HLO.out (one_i64s _) (by unfold maxLen; omega) (by omega) (Nat.le_refl _) ?_; intro v1 w9 hown9 hg9 hat9; have hE9 : Ext w8 w9 := (Ext.drew (Ext.refl w8)).trans (ext_grown_nil hg9); obtain ⟨k1, k2, k3, rfl⟩ := own_slice3 hown9))
          all_goals
            go_wp2
            go_ret3
            rw [HQ.out]
            have hTV : tickV c cs ins = ⟨0, (s1.drop n).take (N - n), k, (s1.drop N).take C⟩ := by
              unfold tickV
              rw [if_neg (by rw [HHY.out.2.2.2.2.2.2.2.2.1]; simp), if_neg (by rw [HHY.out.2.2.2.2.2.2.1]; simp), ← HR.out, HR1.out.2.1]
              dsimp only
              rw [← HN.out.1, ← HN.out.2.2.1, ← HN.out.2.2.2.2, ← HHY.out.2.2.2.2.2.2.2.2.2, ← HN.out.2.2.2.1, show O = N - n by have := HN.out.2.2.2.2; omega]
            rw [hTV]
            have hot : (Value.slice ta tn tcap).ownBlock = (Value.slice ta 0 tcap).ownBlock := by cases ta <;> rfl
            have hMf := HM8.out
            rw [HR1.out.1] at hMf
            refine ⟨.slice k1 k2 k3, .slice (some ⟨b, 0, none⟩) K K, tv', (i : Int), true, s1, w8, rfl, hMf, hE9, ?_, ⟨b, Nat.le_of_eq HBB.out.symm, rfl⟩, by rw [hot]; exact HOr.out, by rw [hot]; exact HK8.out.drop_new (Nat.le_of_eq HBB.out.symm)⟩
            rw [Nat.zero_add, List.nil_append] at hown9
            rw [show ((s1.drop n).take (N - n)).length = N - n by simp [HS1L.out]; omega]
            exact hown9
        | false =>
          obtain ⟨hat, hfu, hend⟩ : AtV c fin s1 t1 i k ∧ c.body.length ≤ i + f ∧ endV c.body f s1 t1 i k = R := by
            rcases HST.out with ⟨_, e⟩ | ⟨e, _⟩
            · exact e
            · cases e
          obtain ⟨F, hbl, hst, FI, hI, -⟩ := HHY.out
          obtain ⟨q, hq⟩ : ∃ q, c.body[i]? = some q := ⟨_, List.getElem?_eq_getElem hat.lt⟩
          have ht64 := hat.high FI hst
          have hki := hat.count
          have hiL : i < L := by rw [HLL.out]; exact hat.lt
          obtain ⟨s2, t2, pc2, en2, f2, HCALL, HST2⟩ : ∃ (s2 t2 : List Int) (pc2 : Nat) (en2 : Bool) (f2 : Nat), Hid (∀ w' tv1, MS g B c (.slice la cs.length lcap) (.slice ka c.kinds.length kcap) iv (.slice (some ⟨b3, 0, none⟩) c.body.length cap3) (.slice (some ⟨b, 0, none⟩) K K) tv1 ((i + 1 : Nat) : Int) false cs s1 t1 w' → Calls Try.prog (doFn q.op) #[.pointer (some ⟨g, 0, none⟩), .agg #[.int .i64 q.op, .int .i64 q.n, .int .i64 q.k]] w' (DidM g B c (.slice la cs.length lcap) (.slice ka c.kinds.length kcap) iv (.slice (some ⟨b3, 0, none⟩) c.body.length cap3) (.slice (some ⟨b, 0, none⟩) K K) tv1 (pc2 : Int) en2 cs s2 t2 w')) ∧ Hid (StM c fin R s2 t2 pc2 (k + 1) f2 en2) := by
            rcases hat.next FI F hI hq with ⟨h9, ht⟩ | ⟨h9, s2, t2, i2, hD, hA2⟩
            · refine ⟨s1, t1, i + 1, true, f, Lib.hid fun w' tv1 hm => doEnd_all hm h9, Lib.hid (.inr ⟨rfl, ht, ?_, hat.vals⟩)⟩
              rw [← hend]; exact endV_end hq h9 hfu
            · obtain ⟨f2, hf2, he2⟩ := endV_step (n := k) hq h9 hD hfu
              exact ⟨s2, t2, i2, false, f2, Lib.hid fun w' tv1 hm => do_any hm hD ht64 hbl, Lib.hid (.inl ⟨rfl, hA2, hf2, he2.symm.trans hend⟩)⟩
          have ho := F.ops i q hq
          have hcs := insCells_at c.body i q hq
          have hil := hat.lt
          have q7 : wr.cell? ⟨g, 7, none⟩ = some (.slice (some ⟨b3, 0, none⟩) L cap3) := by rw [HLL.out]; exact HMr.out.box.cells 7 _ rfl
          have q10 := HMr.out.box.cells 10 _ rfl
          have q11 := HMr.out.box.cells 11 _ rfl
          have gl := HMr.out.box.lt
          have gf := HMr.out.box.fz
          have g0 : wr.cell? ⟨b3, i * 3, none⟩ = some (.int .i64 q.op) := (HMr.out.body.cellAt (i * 3) (by omega)).trans hcs.1
          have g1 : wr.cell? ⟨b3, i * 3 + 1, none⟩ = some (.int .i64 q.n) := (HMr.out.body.cellAt (i * 3 + 1) (by omega)).trans hcs.2.1
          have g2 : wr.cell? ⟨b3, i * 3 + 2, none⟩ = some (.int .i64 q.k) := (HMr.out.body.cellAt (i * 3 + 2) (by omega)).trans hcs.2.2
          have hi0 : (0 : Int) ≤ (i : Int) := by omega
          have hi1 : (i : Int) < (L : Int) := by omega
          have hT1 := HTr.out.2 q.op.toNat _ (doFn_at ho)
          have HOP := Lib.hid ho
          clear hat hfu hend F hbl hst FI hI hq ht64 ho hcs hil
          have HSK : Hid (∀ w', Ext wr w' → w'.cell? ⟨g, 7, none⟩ = some (.slice (some ⟨b3, 0, none⟩) L cap3) ∧ w'.cell? ⟨g, 10, none⟩ = some (.int .i64 (i : Int)) ∧ w'.cell? ⟨b3, i * 3, none⟩ = some (.int .i64 q.op) ∧ w'.cell? ⟨b3, i * 3 + 1, none⟩ = some (.int .i64 q.n) ∧ w'.cell? ⟨b3, i * 3 + 2, none⟩ = some (.int .i64 q.k)) := Lib.hid fun w' hx => ⟨hx.cell q7, hx.cell q10, hx.cell g0, hx.cell g1, hx.cell g2⟩
          go_upto_region 18 with fail
          clear q7 q10 g0 g1 g2 hT1
          go_region_held3 (fun w' => w'.cell? ⟨g, 7, none⟩ = some (.slice (some ⟨b3, 0, none⟩) L cap3) ∧ w'.cell? ⟨g, 10, none⟩ = some (.int .i64 (i : Int)) ∧ w'.cell? ⟨b3, i * 3, none⟩ = some (.int .i64 q.op) ∧ w'.cell? ⟨b3, i * 3 + 1, none⟩ = some (.int .i64 q.n) ∧ w'.cell? ⟨b3, i * 3 + 2, none⟩ = some (.int .i64 q.k))
            (exact HSK.out _ (by repeat first | exact Ext.refl _ | assumption | refine Ext.drew ?_ | refine Ext.drewN ?_ _ | refine Ext.extBy ?_ _ | refine Ext.alloc ?_ _ | refine Ext.setCell ?_ (by simp; try omega) _ | (refine Ext.trans ?_ (by assumption)))) (fail)
          all_goals
            go_upto_region 19 with fail
            have hx10 : Ext wr (wr.alloc (.cells #[.int .i64 q.op, .int .i64 q.n, .int .i64 q.k] 33)).drew := ((Ext.refl wr).alloc _).drew
            have HB10 := Lib.hid ((BoxV.of_row (heap_alloc_last wr (.cells #[.int .i64 q.op, .int .i64 q.n, .int .i64 q.k] 33))).drew)
            generalize (wr.alloc (.cells #[.int .i64 q.op, .int .i64 q.n, .int .i64 q.k] 33)).drew = w10 at hx10 HB10 ⊢
            have q10 := (HSK.out _ hx10).2.1
            have gl10 : g < w10.heap.size := Nat.lt_of_lt_of_le gl hx10.size
            have gf10 := (HMr.out.box.ext hx10).fz
            have HX10 := Lib.hid hx10
            have hiB : (i : Int) ≤ 60000 := by omega
            have hkB : (k : Int) ≤ 60000 := by omega
            clear hx10 gf gl
            go_upto_region 21 with fail
            have hk11 : Kb [g] w10 (w10.setCell ⟨g, 10, none⟩ (.int .i64 ((i : Int) + 1))) := Kb.set w10 g 10 (by simp) _
            have HM11 := Lib.hid ((HMr.out.ext HX10.out).own (tv' := tv') (pc' := ((i + 1 : Nat) : Int)) (ends' := false) (t' := t1) hk11 (((HMr.out.box.ext HX10.out).put 10 (.int .i64 ((i : Int) + 1))).cast rfl) (HMr.out.ext HX10.out).stack rfl)
            have hgX : wr.heap.size ≠ g := fun e => Nat.lt_irrefl _ (by have := HMr.out.box.lt; rw [← e] at this; exact this)
            have HB11 := Lib.hid (HB10.out.other (g := g) (fun e => hgX e.symm) 10 (.int .i64 ((i : Int) + 1)))
            have HT11 := Lib.hid ((HTr.out.kb (Kb.of_ext (S := []) HX10.out) (by simp)).kb hk11 (by simpa using HTG.out.1))
            have HK11 : Hid (Kb [g] wr (w10.setCell ⟨g, 10, none⟩ (.int .i64 ((i : Int) + 1)))) := Lib.hid ((Kb.of_ext HX10.out).trans hk11)
            generalize w10.setCell ⟨g, 10, none⟩ (.int .i64 ((i : Int) + 1)) = w11 at HM11 HB11 HT11 HK11 ⊢
            have p0 := HB11.out.cells 0 _ rfl
            have p1 := HB11.out.cells 1 _ rfl
            have p2 := HB11.out.cells 2 _ rfl
            have hT1 := HT11.out.2 q.op.toNat _ (doFn_at HOP.out)
            have ho0 : 0 ≤ q.op := by have := HOP.out; omega
            have ho1 : q.op < 10 := by have := HOP.out; omega
            have HSA : Hid (∀ m, Calls Try.prog (doFn q.op) #[.pointer (some ⟨g, 0, none⟩), .agg #[.int .i64 q.op, .int .i64 q.n, .int .i64 q.k]] (w11.drewN m) (DidM g B c (.slice la cs.length lcap) (.slice ka c.kinds.length kcap) iv (.slice (some ⟨b3, 0, none⟩) c.body.length cap3) (.slice (some ⟨b, 0, none⟩) K K) tv' (pc2 : Int) en2 cs s2 t2 (w11.drewN m))) := Lib.hid fun m => HCALL.out _ _ (HM11.out.ext ((Ext.refl w11).drewN m))
            have hcf := doFn_enter HOP.out
            clear hk11 q10 gl10 gf10
            (refine region_drew_tail 6 (by kernel_rfl) (by kernel_rfl) ?_; simp only [List.take_succ_cons, List.take_zero, List.drop_succ_cons, List.drop_zero]; (repeat (go_big_quiet_step (fail))); refine wpQuiet_nil ?_; rintro _ ⟨nq, rfl⟩)
            go_wp2_with (refine (HSA.out _).mono ?_; rintro e w12 ⟨tv2, rfl, h12, ho12, hk12⟩)
            go_roundw
            case rel =>
              have hsz : w.heap.size ≤ w11.heap.size := Nat.le_trans HKr.out.size HK11.out.size
              have hTn : T ∉ g :: ((Value.slice (some ⟨b, 0, none⟩) K K).ownBlock.toList ++ tv'.ownBlock.toList) := by
                intro hm
                rcases List.mem_cons.1 hm with e | e
                · exact HTG.out.1 e
                · rcases List.mem_append.1 e with e | e
                  · exact HTG.out.2.1 (by simpa [Value.ownBlock] using e)
                  · exact HTv.out (Option.mem_toList.1 e)
              refine ⟨k + 1, pc2, f2, s2, t2, tv2, en2, by omega, by go_num, Lib.hid h12, Lib.hid ((HT11.out.kb (Kb.of_ext (S := []) ((Ext.refl w11).drewN nq)) (by simp)).kb hk12 hTn), Lib.hid (Nat.le_trans HSr.out (Nat.le_trans HK11.out.size (Nat.le_trans ((Ext.refl w11).drewN nq).size hk12.size))), Lib.hid ?_, HST2, Lib.hid ?_, Lib.hid ?_⟩
              · rcases ho12 with e | ⟨b', hb', e⟩
                · rw [e]; exact HTv.out
                · rw [e]; intro e2; have := HT11.out.1; have := Option.some.inj e2; have := ((Ext.refl w11).drewN nq).size; omega
              · refine ((HKr.out.trans (HK11.out.mono (by simp))).trans (Kb.of_ext ((Ext.refl w11).drewN nq))).trans_new hk12 fun x hx => ?_
                rcases List.mem_cons.1 hx with e | e
                · exact .inl (by rw [e]; simp)
                · rcases List.mem_append.1 e with e | e
                  · exact .inl (by simp [Value.ownBlock] at e; rw [e]; simp)
                  · rcases HOr.out with h | ⟨b', hb', h⟩
                    · exact .inl (by rw [h] at e; simp [e])
                    · refine .inr ?_
                      rw [h] at e; simp at e; omega
              · rcases ho12 with e | ⟨b', hb', e⟩
                · rw [e]; exact HOr.out
                · exact .inr ⟨b', Nat.le_trans hsz hb', e⟩
            case measure => simp [intOf]; omega
end Go.Proofs.Ytipfcfaigbeakaa

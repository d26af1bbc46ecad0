/-
  The law on the stacks of code: its walk.
  No condition.
-/
import Derived.Test.YtipfcfaigbeakaaJLaw
import Derived.Test.YtipfcfaigbeakaaJPlainB
namespace Go.Proofs.Ytipfcfaigbeakaa
open Go.RowKit
set_option maxRecDepth 100000

/-- The seven cells of a program's block. -/
def BoxC (X : Nat) (kv : Value) (i o c s : Int) (iv bv : Value) (w : World) : Prop :=
  w.cell? ⟨X, 0, none⟩ = some kv ∧ w.cell? ⟨X, 1, none⟩ = some (.int .i64 i) ∧ w.cell? ⟨X, 2, none⟩ = some (.int .i64 o) ∧ w.cell? ⟨X, 3, none⟩ = some (.int .i64 c) ∧ w.cell? ⟨X, 4, none⟩ = some (.int .i64 s) ∧ w.cell? ⟨X, 5, none⟩ = some iv ∧ w.cell? ⟨X, 6, none⟩ = some bv ∧ w.frozen? ⟨X, 6, none⟩ = false
theorem BoxC.below {X B : Nat} {kv : Value} {i o c s : Int} {iv bv : Value} {w w' : World} (h : BoxC X kv i o c s iv bv w) (hx : Below B w w') (hX : X < B) : BoxC X kv i o c s iv bv w' := by
  obtain ⟨h0, h1, h2, h3, h4, h5, h6, h7⟩ := h
  have e : ∀ j, w'.cell? ⟨X, j, none⟩ = w.cell? ⟨X, j, none⟩ := fun j => Below.cell (p := ⟨X, j, none⟩) hx hX
  exact ⟨(e 0).trans h0, (e 1).trans h1, (e 2).trans h2, (e 3).trans h3, (e 4).trans h4, (e 5).trans h5, (e 6).trans h6, (Below.frozen (p := ⟨X, 6, none⟩) hx hX).trans h7⟩
theorem BoxC.body {X : Nat} {kv : Value} {i o c s : Int} {iv bv : Value} {w : World} (h : BoxC X kv i o c s iv bv w) (v : Value) : BoxC X kv i o c s iv v (w.setCell ⟨X, 6, none⟩ v) := by
  obtain ⟨h0, h1, h2, h3, h4, h5, h6, h7⟩ := h
  have e : ∀ j, j ≠ 6 → (w.setCell ⟨X, 6, none⟩ v).cell? ⟨X, j, none⟩ = w.cell? ⟨X, j, none⟩ := fun j hj => World.cell?_setCell_other _ _ _ _ (by intro e; simp only [Addr.mk.injEq] at e; omega)
  exact ⟨(e 0 (by decide)).trans h0, (e 1 (by decide)).trans h1, (e 2 (by decide)).trans h2, (e 3 (by decide)).trans h3, (e 4 (by decide)).trans h4, (e 5 (by decide)).trans h5, World.cell?_setCell_same _ _ _ h6, by simp; exact h7⟩
theorem own_slice3 {w : World} {base n : Nat} {e : TypeId} {u : Value} {cs : List Value} {k : Nat} (h : w.ownsRow base e k u n cs) : ∃ a m c, u = .slice a m c := by
  rcases h.2 with ⟨rfl, _⟩ | ⟨g, cap', cur, rfl, hb, _⟩
  · exact ⟨_, _, _, rfl⟩
  · exact ⟨_, _, _, rfl⟩
theorem infoIns : (Try.prog.info? 33).map (fun i => (i.zero, i.size, i.bytes)) = some (some (.agg #[.int .i64 0, .int .i64 0, .int .i64 0]), 3, 24) := by kernel_rfl
theorem insCells_append (a b : List InsV) : insCells (a ++ b) = insCells a ++ insCells b := by unfold insCells; rw [List.flatMap_append]
theorem ext_set {w w' : World} (h : Ext w w') {X : Nat} (hX : w.heap.size ≤ X) (j : Nat) (v : Value) : Ext w (w'.setCell ⟨X, j, none⟩ v) := h.setCell hX v
def pushes (j : Nat) : List InsV := (List.range j).map (fun i => ⟨1, ((i % 100 : Nat) : Int), 2⟩)
theorem pushes_succ (j : Nat) : pushes (j + 1) = pushes j ++ [⟨1, ((j % 100 : Nat) : Int), 2⟩] := by unfold pushes; rw [List.range_succ, List.map_append]; rfl
theorem pushes_len (j : Nat) : (pushes j).length = j := by simp [pushes]
/-- The program that is being built: its body so far. -/
def Bld (w : World) (B X : Nat) (kv : Value) (i o c s : Int) (iv : Value) (l : List InsV) (wr : World) : Prop :=
  ∃ v, BoxC X kv i o c s iv v wr ∧ wr.ownsRow B 33 3 v l.length (insCells l) ∧ Ext w wr ∧ X < B ∧ w.heap.size ≤ X ∧ B ≤ wr.heap.size

set_option maxHeartbeats 4000000 in
theorem codeStacks_any (n s : Int) (hn : I64 n) (hs : I64 s) (w : World) : Calls Try.prog 6 #[.int .i64 n, .int .i64 s] w fun e w' => e = .returned (.bool true) ∧ Ext w w' := by
  unfold I64 at hn hs
  by_cases hbad : n < 1 ∨ 70 < n ∨ s < 0 ∨ 70 < s
  · go_enter Try.func6, Try.ntmps6
    go_wp2_with (first | (go_at_call 15; refine (alive_any _).mono ?_; rintro e w1 ⟨rfl, hx1⟩; (first | (with_reducible obtain ⟨t1, rfl⟩ := Ext.tok2 hx1) | (obtain ⟨t1, rfl⟩ := Ext.tok hx1))))
    all_goals first | omega | (go_ret; exact ⟨rfl, (by repeat first | exact Ext.refl _ | assumption | refine Ext.drew ?_ | refine Ext.drewN ?_ _ | refine Ext.extBy ?_ _ | refine Ext.alloc ?_ _ | refine Ext.setCell ?_ (by simp; try omega) _ | (refine Ext.trans ?_ (by assumption)))⟩) | trace_state
  · obtain ⟨N, rfl⟩ : ∃ N : Nat, n = N := ⟨n.toNat, by omega⟩
    have h1 : 1 ≤ N := by omega
    have h2 : N ≤ 70 := by omega
    have h3 : 0 ≤ s := by omega
    have h4 : s ≤ 70 := by omega
    clear hbad hn hs
    go_enter Try.func6, Try.ntmps6
    go_wp2_with (first | (go_at_call 15; refine (alive_any _).mono ?_; rintro e w1 ⟨rfl, hx1⟩; (first | (with_reducible obtain ⟨t1, rfl⟩ := Ext.tok2 hx1) | (obtain ⟨t1, rfl⟩ := Ext.tok hx1))))
    all_goals try omega
    have hKX : w.heap.size + t1.n < w.heap.size + t1.n + 1 := by omega
    go_loopw [7] (fun i wr => ∃ j : Nat, j ≤ N ∧ i = .int .i64 j ∧ Bld w (w.heap.size + t1.n + 1 + 1) (w.heap.size + t1.n + 1) (.slice (some ⟨w.heap.size + t1.n, 0, none⟩) 1 1) 0 1 0 s (.slice none 0 0) (pushes j) wr ∧ wr.cell? ⟨w.heap.size + t1.n, 0, none⟩ = some (.int .i64 2)) (fun i _ => N - (intOf i).toNat)
    case atStart =>
      refine ⟨0, Nat.zero_le _, rfl, ⟨.slice none 0 0, ⟨by go_simp, by go_simp, by go_simp, by go_simp, by go_simp, by go_simp, by go_simp, by go_simp⟩, own_nil _ _ _ _, (by repeat first | exact Ext.refl _ | assumption | refine Ext.drew ?_ | refine Ext.drewN ?_ _ | refine Ext.extBy ?_ _ | refine Ext.alloc ?_ _ | refine Ext.setCell ?_ (by simp; try omega) _ | (refine Ext.trans ?_ (by assumption))), by omega, by omega, by simp⟩, by go_simp⟩
    case round =>
      obtain ⟨j, hj, rfl, ⟨v, hbx, hown, hext, hXB, hwX, hBs⟩, hk⟩ := hrel
      rw [pushes_len] at hown
      obtain ⟨q0, q1, q2, q3, q4, q5, q6, q7⟩ := id hbx
      by_cases hlt : j < N
      · go_wp2_with (at_builtin; go_must (refine wpList_append_lit rfl _ _ 23 33 rfl (.agg #[.int .i64 0, .int .i64 0, .int .i64 0]) 3 24 Try.underlying23 infoIns rfl (by decide) (w.heap.size + t1.n + 1 + 1) _ j _ rfl hown 1 1 _ #[.int .i64 1, .int .i64 ((j : Int) % 100), .int .i64 2] rfl rfl rfl (by simp [Value.oneCell']) (by unfold maxLen; omega) (by omega) hBs ?_; intro v2 w2 hown2 hg2 hbw2; obtain ⟨a2, m2, c2, rfl⟩ := own_slice3 hown2; have hbx2 := hbx.below hbw2 hXB; have hk2 := (Below.cell (p := ⟨w.heap.size + t1.n, 0, none⟩) hbw2 (by simp only; omega)).trans hk; have hs2 := hbw2.size; have hext2 : Ext w w2 := Below.trans hext (Below.mono hbw2 (by omega)); obtain ⟨r0, r1, r2, r3, r4, r5, r6, r7⟩ := id hbx2))
        go_roundw
        case rel =>
          refine ⟨j + 1, by omega, by go_num, ⟨.slice a2 m2 c2, hbx2.body _, ?_, ext_set hext2 hwX _ _, hXB, hwX, by simp; omega⟩, ?_⟩
          · rw [pushes_len, pushes_succ, insCells_append]
            exact ownsRow_setCell_below hown2 hXB _
          · rw [World.cell?_setCell_other _ _ _ _ (by intro e; simp only [Addr.mk.injEq] at e; omega)]; exact hk2
        case measure => simp [intOf]; omega
      · obtain rfl : j = N := by omega
        go_wp2
        go_loopw [8] (fun i wr => ∃ k : Nat, 1 ≤ k ∧ k ≤ j ∧ i = .int .i64 k ∧ Bld w (w.heap.size + t1.n + 1 + 1) (w.heap.size + t1.n + 1) (.slice (some ⟨w.heap.size + t1.n, 0, none⟩) 1 1) 0 1 0 s (.slice none 0 0) (pushes j ++ List.replicate (k - 1) ⟨5, 3, 2⟩) wr ∧ wr.cell? ⟨w.heap.size + t1.n, 0, none⟩ = some (.int .i64 2)) (fun i _ => j - (intOf i).toNat)
        case atStart =>
          exact ⟨1, Nat.le_refl _, h1, rfl, ⟨v, hbx, by rw [List.replicate_zero, List.append_nil, pushes_len]; exact hown, hext, hXB, hwX, hBs⟩, hk⟩
        case round =>
          clear hbx hown hext hBs hk q0 q1 q2 q3 q4 q5 q6 q7
          obtain ⟨k, hk1, hk2, rfl, ⟨v, hbx, hown, hext, -, -, hBs⟩, hk⟩ := hrel
          have hlen : (pushes j ++ List.replicate (k - 1) (⟨5, 3, 2⟩ : InsV)).length = j + (k - 1) := by rw [List.length_append, pushes_len, List.length_replicate]
          rw [hlen] at hown
          clear hlen
          obtain ⟨q0, q1, q2, q3, q4, q5, q6, q7⟩ := id hbx
          by_cases hlt : k < j
          · go_wp2_with (at_builtin; go_must (refine wpList_append_lit rfl _ _ 23 33 rfl (.agg #[.int .i64 0, .int .i64 0, .int .i64 0]) 3 24 Try.underlying23 infoIns rfl (by decide) (w.heap.size + t1.n + 1 + 1) _ (j + (k - 1)) _ rfl hown 1 1 _ #[.int .i64 5, .int .i64 3, .int .i64 2] rfl rfl rfl (by simp [Value.oneCell']) (by unfold maxLen; omega) (by omega) hBs ?_; intro v2 w2 hown2 hg2 hbw2; obtain ⟨a2, m2, c2, rfl⟩ := own_slice3 hown2; have hbx2 := hbx.below hbw2 hXB; have hk4 := (Below.cell (p := ⟨w.heap.size + t1.n, 0, none⟩) hbw2 (by simp only; omega)).trans hk; have hs2 := hbw2.size; have hext2 : Ext w w2 := Below.trans hext (Below.mono hbw2 (by omega)); obtain ⟨r0, r1, r2, r3, r4, r5, r6, r7⟩ := id hbx2))
            go_roundw
            case rel =>
              refine ⟨k + 1, by omega, by omega, by go_num, ⟨.slice a2 m2 c2, hbx2.body _, ?_, ext_set hext2 hwX _ _, hXB, hwX, by simp; omega⟩, ?_⟩
              · have e1 : pushes j ++ List.replicate (k + 1 - 1) (⟨5, 3, 2⟩ : InsV) = (pushes j ++ List.replicate (k - 1) (⟨5, 3, 2⟩ : InsV)) ++ [(⟨5, 3, 2⟩ : InsV)] := by
                  rw [show k + 1 - 1 = (k - 1) + 1 by omega, List.replicate_succ', List.append_assoc]
                have e2 : ((pushes j ++ List.replicate (k - 1) (⟨5, 3, 2⟩ : InsV)) ++ [(⟨5, 3, 2⟩ : InsV)]).length = j + (k - 1) + 1 := by simp [pushes_len]; omega
                rw [e1, e2, insCells_append]
                exact ownsRow_setCell_below hown2 hXB _
              · rw [World.cell?_setCell_other _ _ _ _ (by intro e; simp only [Addr.mk.injEq] at e; omega)]; exact hk4
            case measure => simp [intOf]; omega
          · obtain rfl : k = j := by omega
            have HC : Hid (∀ (w' : World) (kv v : Value), CodeIn w' kv (.slice none 0 0) v (stackV k s) → Calls Try.prog 17 #[codeA (stackV k s) kv (.slice none 0 0) v] w' fun e w1 => e = .returned (.int .i64 (if 64 < s then 2 else if s < k then 50 else 0)) ∧ Ext w' w1) := Lib.hid fun w' kv v h => by
              have := check_any (stackV k s) kv (.slice none 0 0) v w' h
              rw [chk_stack h1 h2 h3] at this
              exact this
            have HL : Hid (insCells (stackBody k) = insCells (pushes k ++ List.replicate (k - 1) ⟨5, 3, 2⟩) ++ insCells [⟨3, 0, 0⟩, ⟨9, 0, 0⟩]) := Lib.hid (by rw [← insCells_append]; rfl)
            have HN : Hid ((stackBody k).length = k + (k - 1) + 2) := Lib.hid (by rw [stackBody_len h1]; omega)
            go_upto_region 14 with (at_builtin; go_must (refine wpList_append_lit rfl _ _ 23 33 rfl (.agg #[.int .i64 0, .int .i64 0, .int .i64 0]) 3 24 Try.underlying23 infoIns rfl (by decide) (w.heap.size + t1.n + 1 + 1) _ (k + (k - 1)) _ rfl hown 2 2 _ #[.int .i64 3, .int .i64 0, .int .i64 0, .int .i64 9, .int .i64 0, .int .i64 0] rfl rfl rfl (by simp [Value.oneCell']) (by unfold maxLen; omega) (by omega) hBs ?_; intro v2 w2 hown2 hg2 hbw2; obtain ⟨a2, m2, c2, rfl⟩ := own_slice3 hown2; have hbx2 := hbx.below hbw2 hXB; have hk4 := (Below.cell (p := ⟨w.heap.size + t1.n, 0, none⟩) hbw2 (by simp only; omega)).trans hk; have hs2 := hbw2.size; have hext2 : Ext w w2 := Below.trans hext (Below.mono hbw2 (by omega)); obtain ⟨r0, r1, r2, r3, r4, r5, r6, r7⟩ := id hbx2))
            have hbx3 := hbx2.body (.slice a2 m2 c2)
            have hown3 := ownsRow_setCell_below hown2 (a := ⟨w.heap.size + t1.n + 1, 6, none⟩) hXB (.slice a2 m2 c2)
            have hext3 := ext_set hext2 hwX 6 (.slice a2 m2 c2)
            have hk3 : (w2.setCell ⟨w.heap.size + t1.n + 1, 6, none⟩ (.slice a2 m2 c2)).cell? ⟨w.heap.size + t1.n, 0, none⟩ = some (.int .i64 2) := by rw [World.cell?_setCell_other _ _ _ _ (by intro e; simp only [Addr.mk.injEq] at e; omega)]; exact hk4
            generalize w2.setCell ⟨w.heap.size + t1.n + 1, 6, none⟩ (.slice a2 m2 c2) = w3 at hbx3 hown3 hext3 hk3 ⊢
            have hin : CodeIn w3 (.slice (some ⟨w.heap.size + t1.n, 0, none⟩) 1 1) (.slice none 0 0) (.slice a2 m2 c2) (stackV k s) := by
              refine ⟨⟨_, 1, rfl, Nat.le_refl _, by decide, fun i u hu => ⟨_, 0, rfl, ?_⟩⟩, SlC.nil _, ?_⟩
              · match i, hu with
                | 0, hu => simp only [List.map_cons, List.getElem?_cons_zero, Option.some.injEq] at hu; subst hu; exact hk3
                | i + 1, hu => simp at hu
              · have := SlC.of_owns hown3
                show SlC w3 (.slice a2 m2 c2) (stackBody k).length (insCells (stackBody k))
                rw [HN.out, HL.out]; exact this
            obtain ⟨p0, p1, p2, p3, p4, p5, p6, p7⟩ := hbx3
            clear hbx hown hext hBs hk q0 q1 q2 q3 q4 q5 q6 q7 hbx2 hown2 hg2 hbw2 hk4 hs2 hext2 r0 r1 r2 r3 r4 r5 r6 r7 hk3 hown3 HL HN
            obtain ⟨x, hxe, hxc⟩ : ∃ x : Int, x = (if 64 < s then 2 else if s < k then 50 else 0) ∧ (64 < s ∧ x = 2 ∨ s ≤ 64 ∧ s < k ∧ x = 50 ∨ s ≤ 64 ∧ (k : Int) ≤ s ∧ x = 0) := by
              refine ⟨_, rfl, ?_⟩
              by_cases h64 : 64 < s
              · rw [if_pos h64]; exact .inl ⟨h64, rfl⟩
              · rw [if_neg h64]
                by_cases hk : s < (k : Int)
                · rw [if_pos hk]; exact .inr (.inl ⟨by omega, hk, rfl⟩)
                · rw [if_neg hk]; exact .inr (.inr ⟨by omega, by omega, rfl⟩)
            rw [← hxe] at HC
            clear hxe
            rcases hxc with ⟨hs64, rfl⟩ | ⟨hs64, hsn, rfl⟩ | ⟨hs64, hsn, rfl⟩
            all_goals
              go_wp2_with (first | (go_at_call 17; refine (HC.out _ _ _ hin).mono ?_; rintro e w4 ⟨rfl, hx4⟩; (first | (with_reducible obtain ⟨t4, rfl⟩ := Ext.tok2 hx4) | (obtain ⟨t4, rfl⟩ := Ext.tok hx4))) | (go_at_call 18; refine (num19_any _ _).mono ?_; rintro e w5 ⟨rfl, rfl⟩))
              all_goals try omega
              go_ret
              exact ⟨rfl, (by repeat first | exact Ext.refl _ | assumption | refine Ext.drew ?_ | refine Ext.drewN ?_ _ | refine Ext.extBy ?_ _ | refine Ext.alloc ?_ _ | refine Ext.setCell ?_ (by simp; try omega) _ | (refine Ext.trans ?_ (by assumption)))⟩
end Go.Proofs.Ytipfcfaigbeakaa

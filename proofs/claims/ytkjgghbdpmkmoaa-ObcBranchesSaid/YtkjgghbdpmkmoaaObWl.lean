/-
  The walks: inputs' kinds; do ticks fit.
  Conditions: the variables and the rows lie in memory.
-/
import Derived.Test.YtkjgghbdpmkmoaaObOut
import Derived.Test.YtkjgghbdpmkmoaaObCk
import Derived.Test.YtkjgghbdpmkmoaaBvWalkA
import Derived.OwnWalk
namespace Go.Proofs.Ytkjgghbdpmkmoaa
open Go.RowKit
set_option linter.unusedSimpArgs false
set_option linter.unusedVariables false
set_option maxRecDepth 100000

def RetR (xs : List Int) (w : World) (e : Ending) (w' : World) : Prop := ∃ a c, e = .returned (.slice a xs.length c) ∧ Hid (SlC w' (.slice a xs.length c) xs.length (i64s xs) ∧ Ext w w')
set_option maxHeartbeats 8000000 in
theorem ckinds_any (l : List CV) (v : Value) (w : World) (h : VIn w v l) (hl : l.length ≤ 100000) :
    Calls Try.prog 21 #[v] w (RetR (l.map CV.kind) w) := by
  obtain ⟨R, hR⟩ : ∃ R, R = l.map CV.kind := ⟨_, rfl⟩
  rw [← hR]
  obtain ⟨Q, hQ⟩ : ∃ Q, Q = RetR R w := ⟨_, rfl⟩
  rw [← hQ]
  have HQ := Lib.hid hQ
  have HR := Lib.hid hR
  obtain ⟨p, cap, rfl, hkc, hcm⟩ := h.slice
  obtain ⟨n, hn⟩ : ∃ n, n = l.length := ⟨_, rfl⟩
  rw [← hn] at hkc hl ⊢
  have HW := Lib.hid (And.intro h hn)
  have hcI : (cap : Int) ≤ 9223372036854775807 := by unfold maxLen at hcm; omega
  clear hQ hR h hn hcm
  go_enter Try.func21, Try.ntmps21
  go_wp2
  go_loopw [3, 8] (fun o i wr => ∃ (j c1 : Nat) (p1 : Option Addr), j ≤ n ∧ i = .int .i64 (j : Int) ∧ o = .slice p1 j c1 ∧ Hid (wr.ownsRow w.heap.size 3 1 (.slice p1 j c1) j (i64s ((l.take j).map CV.kind)) ∧ Ext w wr)) (fun _ i _ => n - (intOf i).toNat)
  case atStart => exact ⟨0, 0, none, Nat.zero_le _, rfl, rfl, Lib.hid ⟨own_nil _ _ _ _, Ext.refl w⟩⟩
  case round =>
    obtain ⟨j, c1, p1, hj, rfl, rfl, HO⟩ := hrel
    by_cases hlt : j < n
    · have hki : (j : Int) < (n : Int) := Int.ofNat_lt.2 hlt
      obtain ⟨x, hx⟩ : ∃ x, l[j]? = some x := ⟨_, List.getElem?_eq_getElem (by have := HW.out.2; omega)⟩
      have hv := HW.out.1
      rw [← HW.out.2] at hv
      obtain ⟨b, o, pq, nq, cq, rfl, q0, q1, q2, hbl⟩ := (hv.ext HO.out.2).at hx
      have hjc : j < cap := by omega
      have HX := Lib.hid hx
      clear hx hv
      go_upto_region 5 with fail
      have HXA : Hid (Ext w (wr.alloc (.cells #[.string x.name, .int .i64 x.kind, .slice pq nq cq] 32)) ∧ (wr.alloc (.cells #[.string x.name, .int .i64 x.kind, .slice pq nq cq] 32)).ownsRow w.heap.size 3 1 (.slice p1 j c1) j (i64s ((l.take j).map CV.kind))) := Lib.hid ⟨HO.out.2.alloc _, HO.out.1.alloc _⟩
      have hby : BoxV wr.heap.size [.string x.name, .int .i64 x.kind, .slice pq nq cq] (wr.alloc (.cells #[.string x.name, .int .i64 x.kind, .slice pq nq cq] 32)) := BoxV.of_row (heap_alloc_last wr _)
      generalize (wr.alloc (.cells #[.string x.name, .int .i64 x.kind, .slice pq nq cq] 32)) = wy at HXA hby ⊢
      generalize wr.heap.size = Y at hby ⊢
      have d1 := hby.cells 1 _ rfl
      have hyl := hby.lt
      clear hby
      go_wp2_with (at_builtin; (refine wpList_append_slc _ rfl (.tmp 12) (.tmp 15) 23 rfl w.heap.size 3 (.int .i64 0) 1 8 Try.underlying23 infoInt rfl (by decide) (.slice p1 j c1) j (i64s ((l.take j).map CV.kind)) rfl (HXA.out.2.alloc (.cells #[.int .i64 x.kind] 3)) _ 1 [.int .i64 x.kind] rfl (SlC.fresh _ #[.int .i64 x.kind] _ 1 _ (by simp) (by decide)) rfl (by simp [Value.oneCell']) (by unfold maxLen; omega) (by omega) (by have := HXA.out.1.size; simp; omega) ?_; intro v9 w9 hown9 hg9 hat9; obtain ⟨x9, y9, z9, rfl⟩ := own_slice3 hown9; have HP := Lib.hid (And.intro hown9 (And.intro hg9 hat9)); clear hown9 hg9 hat9))
      have hk9 : Kb (Value.ownBlock (.slice p1 j c1)).toList (wy.alloc (.cells #[.int .i64 x.kind] 3)) w9 := Kb.grown HP.out.2.1 (fun g hg => Option.mem_toList.2 hg)
      have hx9 : Ext w w9 := hk9.ext (HXA.out.1.alloc _) (fun g hg => (HXA.out.2.lt g (Option.mem_toList.1 hg)).1)
      have hy : y9 = j + 1 := by
        obtain ⟨a', c', e, -⟩ := SlC.of_owns HP.out.1
        simp at e
        exact e.2.1
      subst hy
      refine ⟨⟨j + 1, z9, x9, by omega, by go_num, rfl, Lib.hid ⟨?_, hx9⟩⟩, by simp [intOf]; omega⟩
      have h1 := HP.out.1
      rw [List.take_add_one, HX.out, Option.toList_some, List.map_append]
      unfold i64s at h1 ⊢
      rw [List.map_append]
      exact h1
    · have hki : ¬ (j : Int) < (n : Int) := fun e => hlt (Int.ofNat_lt.1 e)
      obtain rfl : j = n := by omega
      go_wp2
      rw [HQ.out]
      have h2 : (l.take j).map CV.kind = R := by rw [HR.out, HW.out.2, List.take_length]
      have h3 : R.length = j := by rw [HR.out, List.length_map, ← HW.out.2]
      have h1 := HO.out
      rw [h2] at h1
      refine ⟨p1, c1, by rw [h3], Lib.hid ⟨?_, h1.2⟩⟩
      rw [h3]
      exact SlC.of_owns h1.1
/-! ### Ask -/
def askZ : List Int → List Int → Bool
  | k :: ks, n :: r => isk k n && askZ ks r
  | _, _ => true
def askR (ks r : List Int) : Int := if r.length ≠ ks.length then 23 else if askZ ks r then 0 else 1
def askL (ks : List Int) : List (List Int) → Int
  | [] => 0
  | r :: rs => if askR ks r ≠ 0 then askR ks r else askL ks rs
def askV (ks : List Int) (rs : List (List Int)) : Int := if 1000 < rs.length then 2 else askL ks rs
theorem askZ_step {ks r : List Int} {j : Nat} {k n : Int} (h1 : ks[j]? = some k) (h2 : r[j]? = some n) : askZ (ks.drop j) (r.drop j) = (isk k n && askZ (ks.drop (j + 1)) (r.drop (j + 1))) := by
  obtain ⟨a1, rfl⟩ := List.getElem?_eq_some_iff.1 h1
  obtain ⟨a2, rfl⟩ := List.getElem?_eq_some_iff.1 h2
  rw [List.drop_eq_getElem_cons a1, List.drop_eq_getElem_cons a2, askZ]
theorem askL_step {ks : List Int} {rs : List (List Int)} {j : Nat} {r : List Int} (h : rs[j]? = some r) : askL ks (rs.drop j) = if askR ks r ≠ 0 then askR ks r else askL ks (rs.drop (j + 1)) := by
  obtain ⟨a1, rfl⟩ := List.getElem?_eq_some_iff.1 h
  rw [List.drop_eq_getElem_cons a1, askL]
theorem i64s_get {l : List Int} {j : Nat} {x : Int} (h : l[j]? = some x) : (i64s l)[j]? = some (.int .i64 x) := by
  unfold i64s; rw [List.getElem?_map, h]; rfl
theorem SlC.cellAt {w : World} {p : Option Addr} {m c : Nat} {l : List Int} {j : Nat} {x : Int} {n : Nat} (h : SlC w (.slice p m c) n (i64s l)) (hx : l[j]? = some x) : ∃ b o, p = some ⟨b, o, none⟩ ∧ w.cell? ⟨b, o + j, none⟩ = some (.int .i64 x) ∧ b < w.heap.size := by
  obtain ⟨a, cap, e, -, -, hc⟩ := h
  simp only [Value.slice.injEq] at e
  obtain ⟨b, o, e1, h1⟩ := hc j _ (i64s_get hx)
  exact ⟨b, o, e.1.trans e1, h1, World.block_lt_of_cell? w _ h1⟩
def RetE0 (v : Int) (w : World) (e : Ending) (w' : World) : Prop := e = .returned (.int .i64 v) ∧ Hid (Ext w w')
set_option maxHeartbeats 8000000 in
theorem ask_any (ks : List Int) (kv v : Value) (vs : List Value) (rs : List (List Int)) (w : World) (hk : SlC w kv ks.length (i64s ks)) (h : RowsIn w v vs rs) :
    Calls Try.prog 20 #[kv, v] w (RetE0 (askV ks rs) w) := by
  obtain ⟨R, hR⟩ : ∃ R, R = askV ks rs := ⟨_, rfl⟩
  rw [← hR]
  obtain ⟨Q, hQ⟩ : ∃ Q, Q = RetE0 R w := ⟨_, rfl⟩
  rw [← hQ]
  have HQ := Lib.hid hQ
  have HRR := Lib.hid hR
  have HR := Lib.hid h
  have HK := Lib.hid hk
  obtain ⟨a, cap, rfl, hn1, hn2, hc⟩ := id h.top
  obtain ⟨ka, kcap, rfl, hm1, hm2, -⟩ := id hk
  have HT := Lib.hid hc
  obtain ⟨n, hn⟩ : ∃ n, n = rs.length := ⟨_, rfl⟩
  obtain ⟨m, hm⟩ : ∃ m, m = ks.length := ⟨_, rfl⟩
  rw [← hn] at hn1 ⊢
  rw [← hm] at hm1 ⊢
  have HN := Lib.hid (And.intro hn hm)
  have hcI : (cap : Int) ≤ 9223372036854775807 := by unfold maxLen at hn2; omega
  have hcJ : (kcap : Int) ≤ 9223372036854775807 := by unfold maxLen at hm2; omega
  clear hn hm hc h hk hn2 hm2 hQ hR
  by_cases hbig : 1000 < n
  · have hb : (1000 : Int) < (n : Int) := by omega
    have h1 : Hid (R = 2) := Lib.hid (by rw [HRR.out]; unfold askV; rw [if_pos (by rw [← HN.out.1]; exact hbig)])
    go_enter Try.func20, Try.ntmps20
    go_wp2
    rw [HQ.out, h1.out]
    exact ⟨rfl, Lib.hid (Ext.refl w)⟩
  have hb : ¬ (1000 : Int) < (n : Int) := by omega
  have h1 : Hid (R = askL ks rs) := Lib.hid (by rw [HRR.out]; unfold askV; rw [if_neg (by rw [← HN.out.1]; exact hbig)])
  clear hbig
  go_enter Try.func20, Try.ntmps20
  go_wp2
  go_loopw [14] (fun i wr => ∃ j : Nat, j ≤ n ∧ i = .int .i64 (j : Int) ∧ wr = w ∧ Hid (R = askL ks (rs.drop j))) (fun i _ => n - (intOf i).toNat)
  case atStart => exact ⟨0, Nat.zero_le _, rfl, rfl, Lib.hid (by rw [h1.out]; rfl)⟩
  case round =>
    obtain ⟨j, hj, rfl, rfl, HJ⟩ := hrel
    by_cases hlt : j < n
    · have hki : (j : Int) < (n : Int) := Int.ofNat_lt.2 hlt
      obtain ⟨x, r, hx, hr, hs⟩ := HR.out.at (j := j) (by have := HN.out.1; omega)
      obtain ⟨b, o, rfl, f1⟩ := HT.out j x hx
      have z1 : b < wr.heap.size := World.block_lt_of_cell? wr _ f1
      obtain ⟨xa, xcap, rfl, l1, l2, lc⟩ := id hs
      obtain ⟨L, hL⟩ : ∃ L, L = r.length := ⟨_, rfl⟩
      have HS := Lib.hid (And.intro hs (And.intro hr hL))
      rw [← hL] at f1 l1
      have hcL : (xcap : Int) ≤ 9223372036854775807 := by unfold maxLen at l2; omega
      have hjc : j < cap := by omega
      clear hx hr hs lc hL l2
      by_cases hLm : L = m
      · have hne : ((L : Int) != (m : Int)) = false := by simp [hLm]
        have HJR : Hid (askR ks r = if askZ ks r then 0 else 1) := Lib.hid (by unfold askR; rw [if_neg (by rw [← HS.out.2.2, ← HN.out.2]; simpa using hLm)])
        have HLM := Lib.hid hLm
        have hLk : L ≤ kcap := by omega
        clear hLm
        go_wp2
        go_loopw [25] (fun i wr2 => ∃ k : Nat, k ≤ L ∧ i = .int .i64 (k : Int) ∧ wr2 = wr ∧ Hid (askZ ks r = askZ (ks.drop k) (r.drop k))) (fun i _ => L - (intOf i).toNat)
        case atStart => exact ⟨0, Nat.zero_le _, rfl, rfl, Lib.hid rfl⟩
        case round =>
          obtain ⟨k, hk, rfl, rfl, HKZ⟩ := hrel
          by_cases hlt2 : k < L
          · have hkk : (k : Int) < (L : Int) := Int.ofNat_lt.2 hlt2
            have hkm : (k : Int) < (m : Int) := by have := HLM.out; omega
            obtain ⟨y, hy⟩ : ∃ y, r[k]? = some y := ⟨_, List.getElem?_eq_getElem (by have := HS.out.2.2; omega)⟩
            obtain ⟨kd, hkd⟩ : ∃ y, ks[k]? = some y := ⟨_, List.getElem?_eq_getElem (by have := HN.out.2; have := HLM.out; omega)⟩
            have hs1 := HS.out.1
            rw [← HS.out.2.2] at hs1
            obtain ⟨b2, o2, rfl, g1, g2⟩ := hs1.cellAt hy
            have hk1 := HK.out
            rw [← HN.out.2] at hk1
            obtain ⟨b3, o3, rfl, g3, g4⟩ := hk1.cellAt hkd
            have hxc : k < xcap := by omega
            have hkc : k < kcap := by omega
            have HZ : Hid (askZ (ks.drop k) (r.drop k) = (isk kd y && askZ (ks.drop (k + 1)) (r.drop (k + 1)))) := Lib.hid (askZ_step hkd hy)
            have HIS : Hid (∀ w1, Calls Try.prog 34 #[.int .i64 kd, .int .i64 y] w1 fun e w' => e = .returned (.bool (isk kd y)) ∧ w1 = w') := Lib.hid (fun w1 => bvIs_any kd y w1)
            obtain ⟨ik, hik⟩ : ∃ z, z = isk kd y := ⟨_, rfl⟩
            rw [← hik] at HIS HZ
            clear hy hkd hs1 hk1 hik
            cases ik with
            | false =>
              go_wp2_with (first | (go_at_call 34; refine (HIS.out _).mono ?_; rintro e1 w2 ⟨rfl, rfl⟩) | fail)
              have h2 : R = 1 := by
                have h3 : askR ks r = 1 := by rw [HJR.out, HKZ.out, HZ.out]; simp
                rw [HJ.out, askL_step HS.out.2.1, h3]; simp
              rw [HQ.out, h2]
              exact ⟨rfl, Lib.hid (Ext.refl _)⟩
            | true =>
              go_wp2_with (first | (go_at_call 34; refine (HIS.out _).mono ?_; rintro e1 w2 ⟨rfl, rfl⟩) | fail)
              exact ⟨⟨k + 1, by omega, by go_num, trivial, Lib.hid (by rw [HKZ.out, HZ.out]; simp)⟩, by simp [intOf]; omega⟩
          · have hkk : ¬ (k : Int) < (L : Int) := fun e => hlt2 (Int.ofNat_lt.1 e)
            obtain rfl : k = L := by omega
            go_wp2
            refine ⟨⟨j + 1, by omega, by go_num, trivial, Lib.hid ?_⟩, by simp [intOf]; omega⟩
            have h3 : askR ks r = 0 := by
              rw [HJR.out, HKZ.out, HS.out.2.2, List.drop_length]
              cases (ks.drop r.length) <;> simp [askZ]
            rw [HJ.out, askL_step HS.out.2.1, h3]; simp
      · have hne : ((L : Int) != (m : Int)) = true := by simp; omega
        have h2 : Hid (R = 23) := Lib.hid (by
          have h3 : askR ks r = 23 := by unfold askR; rw [if_pos (by rw [← HS.out.2.2, ← HN.out.2]; exact hLm)]
          rw [HJ.out, askL_step HS.out.2.1, h3]; simp)
        clear hLm
        go_wp2
        rw [HQ.out, h2.out]
        exact ⟨rfl, Lib.hid (Ext.refl _)⟩
    · have hki : ¬ (j : Int) < (n : Int) := fun e => hlt (Int.ofNat_lt.1 e)
      obtain rfl : j = n := by omega
      have h2 : Hid (R = 0) := Lib.hid (by rw [HJ.out, HN.out.1, List.drop_length, askL])
      go_wp2
      rw [HQ.out, h2.out]
      exact ⟨rfl, Lib.hid (Ext.refl _)⟩
end Go.Proofs.Ytkjgghbdpmkmoaa

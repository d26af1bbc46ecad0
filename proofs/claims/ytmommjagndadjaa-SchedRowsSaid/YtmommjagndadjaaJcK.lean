/-
  The walk: the methods of places, and how they are reached through an interface.
  Condition: the places lie in memory.
  The walk: the library's heap over places.
  Condition: the places lie in memory.
  The walk: the library's heap over places, downwards; Push and Pop.
  Condition: the places lie in memory.
  The order of numbers that hang on each other: plain.
  No condition.
  What the order of numbers keeps in memory: the waiting, who stands behind, the heap, what is out.
  No condition.
  The walk: the order of numbers that hang on each other.
  Condition: the rows lie in memory.
  Plain: what Sort tells is numbers below the length.
  Condition: so are those that each hangs on.
-/
import Derived.Test.YtmommjagndadjaaJcE
import Derived.Test.YtmommjagndadjaaJcA
import Derived.Test.YtmommjagndadjaaJcJ
import Derived.Test.YtmommjagndadjaaJcF
import Derived.Deep.OwnRows
import Derived.Deep.LoopGhost
namespace Go.Proofs.Ytmommjagndadjaa
open Go.RowKit
set_option linter.unusedSimpArgs false
set_option linter.unusedVariables false
set_option maxRecDepth 100000

theorem loadPl {w : World} {L : Nat} {v : Value} (h : w.cell? ⟨L, 0, none⟩ = some v) : (loadVar 98 ⟨L, 0, none⟩).run Try.prog w = .ok v w := by
  have e : (loadVar 98 ⟨L, 0, none⟩).run Try.prog w = (load ⟨L, 0, none⟩).run Try.prog w := by kernel_rfl
  rw [e]
  rw [run_load]
  simp [h]
theorem methLen (a : Addr) (w : World) : (method 265 97 (.pointer (some a)) "Len").run Try.prog w = ((loadVar 98 a) >>= fun v => (pure (48, v) : Sem (FuncId × Value))).run Try.prog w := by kernel_rfl
theorem reachLen {w : World} {L : Nat} {v : Value} (h : w.cell? ⟨L, 0, none⟩ = some v) : (method 265 97 (.pointer (some ⟨L, 0, none⟩)) "Len").run Try.prog w = .ok (48, v) w := by
  rw [methLen, Sem.run_bind, loadPl h]
  rfl
theorem methLess (a : Addr) (w : World) : (method 265 97 (.pointer (some a)) "Less").run Try.prog w = ((loadVar 98 a) >>= fun v => (pure (128, v) : Sem (FuncId × Value))).run Try.prog w := by kernel_rfl
theorem reachLess {w : World} {L : Nat} {v : Value} (h : w.cell? ⟨L, 0, none⟩ = some v) : (method 265 97 (.pointer (some ⟨L, 0, none⟩)) "Less").run Try.prog w = .ok (128, v) w := by
  rw [methLess, Sem.run_bind, loadPl h]
  rfl
theorem methSwap (a : Addr) (w : World) : (method 265 97 (.pointer (some a)) "Swap").run Try.prog w = ((loadVar 98 a) >>= fun v => (pure (131, v) : Sem (FuncId × Value))).run Try.prog w := by kernel_rfl
theorem reachSwap {w : World} {L : Nat} {v : Value} (h : w.cell? ⟨L, 0, none⟩ = some v) : (method 265 97 (.pointer (some ⟨L, 0, none⟩)) "Swap").run Try.prog w = .ok (131, v) w := by
  rw [methSwap, Sem.run_bind, loadPl h]
  rfl
theorem methPush (a : Addr) (w : World) : (method 265 97 (.pointer (some a)) "Push").run Try.prog w = .ok (130, .pointer (some a)) w := by kernel_rfl
theorem methPop (a : Addr) (w : World) : (method 265 97 (.pointer (some a)) "Pop").run Try.prog w = .ok (129, .pointer (some a)) w := by kernel_rfl
/-- Places: their block, their numbers in a row of their own. -/
structure PLs (w : World) (base L : Nat) (l : List Int) : Prop where
  ex : ∃ v, w.heap[L]? = some (.cells #[v] 98 (0, 0)) ∧ w.ownsRow base 3 1 v l.length (i64s l) ∧ ∀ b, v.ownBlock = some b → b ≠ L
  lo : base ≤ L
section
variable {w w' w1 : World} {base L : Nat} {l l' : List Int}
theorem PLs.lt (h : PLs w base L l) : L < w.heap.size := by
  obtain ⟨v, h1, -⟩ := h.ex
  exact (Array.getElem?_eq_some_iff.1 h1).1
theorem PLs.next (h : PLs w base L l) (hx : Ext w w') : PLs w' base L l := by
  obtain ⟨v, h1, h2, h3⟩ := h.ex
  exact ⟨⟨v, ext_block hx h1, ownsRow_ext h2 hx, h3⟩, h.lo⟩
theorem PLs.tb (h : PLs w base L l) {k : Nat} (hk : TbO L w k) : base ≤ k ∧ k < w.heap.size := by
  obtain ⟨v, h1, h2, h3⟩ := h.ex
  rcases hk with rfl | ⟨j, u, h4, h5⟩
  · exact ⟨h.lo, h.lt⟩
  · rw [cell_of_row w L j _ _ (0, 0) h1] at h4
    cases j with
    | zero =>
      simp at h4
      subst h4
      exact h2.lt k h5
    | succ j => simp at h4
theorem PLs.same (h : PLs w base L l) (hx : Ext w w') {k : Nat} (hk : TbO L w' k) : TbO L w k := by
  rcases hk with rfl | ⟨j, v, h1, h2⟩
  · exact .inl rfl
  · exact .inr ⟨j, v, by rw [← hx.cells L j h.lt]; exact h1, h2⟩
theorem kt_of_kb {S : List Nat} (hk : Kb S w w') (hS : ∀ k ∈ S, TbO L w k) (hL : w'.heap[L]? = w.heap[L]?) : Kt (TbO L) w w' :=
  ⟨hk.os, hk.tape, hk.output, hk.size, fun k hk1 hn => hk.block k hk1 (fun e => hn (hS k e)), fun k _ hb => by
    rcases hb with rfl | ⟨j, v, h1, h2⟩
    · exact .inl rfl
    · refine .inr ⟨j, v, ?_, h2⟩
      have e : w.cell? ⟨L, j, none⟩ = w'.cell? ⟨L, j, none⟩ := by unfold World.cell?; simp only [hL]
      rw [e]; exact h1⟩
theorem i64s_set (l : List Int) (j : Nat) (x : Int) : (i64s l).set j (.int .i64 x) = i64s (l.set j x) := by simp [i64s, List.map_set]
theorem i64s_at {l : List Int} {j : Nat} (h : j < l.length) : (i64s l)[j]? = some (.int .i64 (l.getD j 0)) := by
  simp [i64s, List.getD, List.getElem?_eq_getElem h]
/-- The value that the places' block holds, put anew. -/
theorem PLs.put (h : PLs w base L l) {v v' : Value} (hv : w.heap[L]? = some (.cells #[v] 98 (0, 0))) (hvo : ∀ b, v.ownBlock = some b → b ≠ L) (hk : Kb v.ownBlock.toList w w1) (ho : w1.ownsRow base 3 1 v' l'.length (i64s l')) (hat : v'.ownBlock = v.ownBlock ∨ ∃ g, v'.ownBlock = some g ∧ w.heap.size ≤ g) :
    PLs (w1.setCell ⟨L, 0, none⟩ v') base L l' ∧ Kt (TbO L) w (w1.setCell ⟨L, 0, none⟩ v') := by
  have hL : L ∉ v.ownBlock.toList := fun e => hvo L (Option.mem_toList.1 e) rfl
  have h1 := hk.heap hL hv
  have h2 : (w1.setCell ⟨L, 0, none⟩ v').heap[L]? = some (.cells #[v'] 98 (0, 0)) := by
    have := heap_setCell_same w1 L 0 _ _ v' h1
    simpa using this
  have hks : Kb [L] w1 (w1.setCell ⟨L, 0, none⟩ v') := Kb.set _ _ _ (by simp) _
  have hnL : ∀ b, v'.ownBlock = some b → b ≠ L := fun b hb => by
    rcases hat with e | ⟨g, e, hg⟩
    · exact hvo b (e ▸ hb)
    · rw [e] at hb
      have := h.lt
      simp at hb
      omega
  refine ⟨⟨⟨v', h2, hks.row ho (fun g hg e => ?_), hnL⟩, h.lo⟩, ⟨hk.os, hk.tape, hk.output, by simpa using hk.size, fun k hk1 hn => ?_, fun k hk1 hb => ?_⟩⟩
  · simp at hg
    exact hnL g e hg
  · have h3 : k ≠ L := fun e => hn (.inl e)
    rw [hks.block k (Nat.lt_of_lt_of_le hk1 hk.size) (by simpa using h3)]
    refine hk.block k hk1 (fun e => hn (.inr ⟨0, v, by rw [cell_of_row w L 0 _ _ (0, 0) hv]; rfl, Option.mem_toList.1 e⟩))
  · rcases hb with rfl | ⟨j, u, h3, h4⟩
    · exact .inl rfl
    · rw [cell_of_row _ L j _ _ (0, 0) h2] at h3
      cases j with
      | succ j => simp at h3
      | zero =>
        simp at h3
        subst h3
        rcases hat with e1 | ⟨g, e1, hg⟩
        · exact .inr ⟨0, v, by rw [cell_of_row w L 0 _ _ (0, 0) hv]; rfl, e1 ▸ h4⟩
        · rw [e1] at h4
          simp at h4
          omega
end
set_option maxHeartbeats 4000000 in
theorem plen_any (p : Option Addr) (n c : Nat) (w : World) : Calls Try.prog 48 #[.slice p n c] w (fun e w' => e = .returned (.int .i64 (n : Int)) ∧ w' = w) := by
  go_enter Try.func48, Try.ntmps48
  go_wp2
  go_ret
  exact ⟨rfl, rfl⟩
set_option maxHeartbeats 4000000 in
theorem pless_any {w : World} {base g n cap : Nat} {l : List Int} (ho : w.ownsRow base 3 1 (.slice (some ⟨g, 0, none⟩) n cap) n (i64s l)) {i j : Nat} (hi : i < n) (hj : j < n) (hn : n ≤ 1000000000000) :
    Calls Try.prog 128 #[.slice (some ⟨g, 0, none⟩) n cap, .int .i64 (i : Int), .int .i64 (j : Int)] w (RetX (decide (l.getD i 0 < l.getD j 0)) w) := by
  have hl : l.length = n := by simpa using ho.1
  have ci := (own_cell1 ho i _ (i64s_at (by omega))).1
  have cj := (own_cell1 ho j _ (i64s_at (by omega))).1
  obtain ⟨x, hx⟩ : ∃ x, x = l.getD i 0 := ⟨_, rfl⟩
  obtain ⟨y, hy⟩ : ∃ y, y = l.getD j 0 := ⟨_, rfl⟩
  rw [← hx] at ci ⊢
  rw [← hy] at cj ⊢
  have ci2 : w.cell? ⟨g, 0 + i, none⟩ = some (.int .i64 x) := by rw [Nat.zero_add]; exact ci
  have cj2 : w.cell? ⟨g, 0 + j, none⟩ = some (.int .i64 y) := by rw [Nat.zero_add]; exact cj
  have hgl := World.block_lt_of_cell? w _ ci
  clear ho hl hx hy
  go_enter Try.func128, Try.ntmps128
  go_wp2
  (refine region_drew (by kernel_rfl) (by kernel_rfl) ?_; (repeat (go_big_quiet_step (fail))); refine wpQuiet_nil ?_; rintro _ ⟨nq, rfl⟩)
  go_wp2
  try go_ret
  exact ⟨rfl, Lib.hid ((Ext.refl w).drewN _)⟩
set_option maxHeartbeats 4000000 in
theorem pswap_any {w : World} {base g n cap : Nat} {l : List Int} (ho : w.ownsRow base 3 1 (.slice (some ⟨g, 0, none⟩) n cap) n (i64s l)) {i j : Nat} (hi : i < n) (hj : j < n) (hn : n ≤ 1000000000000) :
    Calls Try.prog 131 #[.slice (some ⟨g, 0, none⟩) n cap, .int .i64 (i : Int), .int .i64 (j : Int)] w (fun e w' => e = .returned (.tuple #[]) ∧ Hid (w'.ownsRow base 3 1 (.slice (some ⟨g, 0, none⟩) n cap) n (i64s (swapV l i j)) ∧ Kb [g] w w')) := by
  have hl : l.length = n := by simpa using ho.1
  obtain ⟨ci, fi⟩ := own_cell1 ho i _ (i64s_at (by omega))
  obtain ⟨cj, fj⟩ := own_cell1 ho j _ (i64s_at (by omega))
  obtain ⟨x, hx⟩ : ∃ x, x = l.getD i 0 := ⟨_, rfl⟩
  obtain ⟨y, hy⟩ : ∃ y, y = l.getD j 0 := ⟨_, rfl⟩
  have HE : Hid (swapV l i j = (l.set i y).set j x) := Lib.hid (by unfold swapV; rw [hx, hy])
  rw [← hx] at ci
  rw [← hy] at cj
  have HO := Lib.hid ho
  have hgl := World.block_lt_of_cell? w _ ci
  have cj2 : ∃ u, (w.setCell ⟨g, i, none⟩ (.int .i64 y)).cell? ⟨g, j, none⟩ = some u := cell?_setCell_some (w := w) (p := ⟨g, i, none⟩) (x := .int .i64 y) (q := ⟨g, j, none⟩) cj
  obtain ⟨v', hy'⟩ := cj2
  clear ho hl hx hy
  go_enter Try.func131, Try.ntmps131
  go_wp2
  go_region
  all_goals (try go_wp2)
  all_goals (refine bodyPost_end (results_none rfl _ _ _) rfl ?_)
  all_goals (refine ⟨rfl, Lib.hid ?_⟩)
  all_goals (rw [HE.out])
  all_goals
    have h1 := own_set1 (own_set1 HO.out i hi (.int .i64 y)) j hj (.int .i64 x)
    rw [i64s_set, i64s_set] at h1
    exact ⟨ownsRow_ext h1 (Ext.refl _).drew, ((Kb.set _ _ _ (by simp) _).trans (Kb.set _ _ _ (by simp) _)).trans (Kb.of_ext (Ext.refl _).drew)⟩
/-- Two places are changed round. -/
theorem PLs.swap {w : World} {base L : Nat} {l : List Int} (h : PLs w base L l) {i j : Nat} (hi : i < l.length) (hj : j < l.length) (hn : l.length ≤ 1000000000000) : ∃ v, w.cell? ⟨L, 0, none⟩ = some v ∧ Calls Try.prog 131 #[v, .int .i64 (i : Int), .int .i64 (j : Int)] w (RetN (TbO L) (fun w' => PLs w' base L (swapV l i j)) w) := by
  obtain ⟨v, h1, h2, h3⟩ := h.ex
  refine ⟨v, by rw [cell_of_row w L 0 _ _ (0, 0) h1]; rfl, ?_⟩
  obtain ⟨g, cap, rfl, hb, hc, hg⟩ := ownsRow_some h2 (by omega)
  refine (pswap_any h2 hi hj hn).mono ?_
  rintro e w' ⟨rfl, H⟩
  have hgL := h3 g rfl
  have hL : w'.heap[L]? = w.heap[L]? := H.out.2.block L h.lt (by simp; omega)
  refine ⟨rfl, Lib.hid ⟨kt_of_kb H.out.2 (fun k hk => ?_) hL, ⟨⟨_, by rw [hL]; exact h1, ?_, h3⟩, h.lo⟩⟩⟩
  · simp at hk
    subst hk
    exact .inr ⟨0, _, by rw [cell_of_row w L 0 _ _ (0, 0) h1]; rfl, rfl⟩
  · have : (swapV l i j).length = l.length := by simp [swapV]
    rw [this]
    exact H.out.1
theorem PLs.less {w : World} {base L : Nat} {l : List Int} (h : PLs w base L l) {i j : Nat} (hi : i < l.length) (hj : j < l.length) (hn : l.length ≤ 1000000000000) : ∃ v, w.cell? ⟨L, 0, none⟩ = some v ∧ Calls Try.prog 128 #[v, .int .i64 (i : Int), .int .i64 (j : Int)] w (RetX (decide (l.getD i 0 < l.getD j 0)) w) := by
  obtain ⟨v, h1, h2, h3⟩ := h.ex
  refine ⟨v, by rw [cell_of_row w L 0 _ _ (0, 0) h1]; rfl, ?_⟩
  obtain ⟨g, cap, rfl, hb, hc, hg⟩ := ownsRow_some h2 (by omega)
  exact pless_any h2 hi hj hn
theorem PLs.len {w : World} {base L : Nat} {l : List Int} (h : PLs w base L l) : ∃ v, w.cell? ⟨L, 0, none⟩ = some v ∧ Calls Try.prog 48 #[v] w (fun e w' => e = .returned (.int .i64 (l.length : Int)) ∧ w' = w) := by
  obtain ⟨v, h1, h2, h3⟩ := h.ex
  refine ⟨v, by rw [cell_of_row w L 0 _ _ (0, 0) h1]; rfl, ?_⟩
  obtain ⟨a, c, rfl⟩ := own_n h2
  exact plen_any _ _ _ _
theorem assertInt (x : Int) (w : World) : (Instr.typeAssert (.iface 3 (.int .i64 x)) 20 3 false).run Try.prog w = .ok (.int .i64 x) w := by kernel_rfl
set_option maxHeartbeats 8000000 in
theorem ppush_any {w : World} {base L : Nat} {l : List Int} (h : PLs w base L l) (x : Int) (hn : l.length ≤ 1000000000000) (hB : base ≤ w.heap.size) :
    Calls Try.prog 130 #[.pointer (some ⟨L, 0, none⟩), .iface 3 (.int .i64 x)] w (RetN (TbO L) (fun w' => PLs w' base L (l ++ [x])) w) := by
  obtain ⟨Q, hQ⟩ : ∃ Q, Q = RetN (TbO L) (fun w' => PLs w' base L (l ++ [x])) w := ⟨_, rfl⟩
  rw [← hQ]
  have HQ := Lib.hid hQ
  obtain ⟨v, h1, h2, h3⟩ := h.ex
  obtain ⟨va, vm, vc, rfl⟩ := own_slice3 h2
  have HP := Lib.hid (And.intro h (And.intro h1 (And.intro h2 h3)))
  have dL : w.cell? ⟨L, 0, none⟩ = some (.slice va vm vc) := by rw [cell_of_row w L 0 _ _ (0, 0) h1]; rfl
  have lL := h.lt
  have hta := assertInt x
  clear hQ h h1 h2 h3
  go_enter Try.func130, Try.ntmps130
  go_upto_region 0 with fail
  refine wp_region_noPanic ?_
  refine hd_begin (S := fun w' => w'.cell? ⟨L, 0, none⟩ = some (.slice va vm vc)) 9 (by kernel_rfl) (by kernel_rfl) dL (fun hHeld => ?_)
  have hxd : Ext w w.drew := (Ext.refl w).drew
  generalize w.drew = wd at hxd hHeld ⊢
  refine hd_take (i := 0) (v := .pointer (some ⟨L, 0, none⟩)) rfl (by kernel_rfl) (by kernel_rfl) (fun _ _ _ h => h) (Or.inl ⟨by rfl, fun w' hSw => by ((try dsimp only at hSw); go_simp)⟩) hHeld ?_
  try simp only [Act.put, List.setIfInBounds_toArray, List.set_cons_zero, List.set_cons_succ]
  refine hd_take (i := 1) (v := .pointer (some ⟨L, 0, none⟩)) rfl (by kernel_rfl) (by kernel_rfl) (fun _ _ _ h => h) (Or.inl ⟨by rfl, fun w' hSw => by ((try dsimp only at hSw); go_simp)⟩) hHeld ?_
  try simp only [Act.put, List.setIfInBounds_toArray, List.set_cons_zero, List.set_cons_succ]
  refine hd_take (i := 2) (v := .pointer (some ⟨L, 0, none⟩)) rfl (by kernel_rfl) (by kernel_rfl) (fun _ _ _ h => h) (Or.inl ⟨by rfl, fun w' hSw => by ((try dsimp only at hSw); go_simp)⟩) hHeld ?_
  try simp only [Act.put, List.setIfInBounds_toArray, List.set_cons_zero, List.set_cons_succ]
  refine hd_take (i := 3) (v := .slice va vm vc) rfl (by kernel_rfl) (by kernel_rfl) (fun _ _ _ h => h) (Or.inl ⟨by rfl, fun w' hSw => by ((try dsimp only at hSw); go_simp)⟩) hHeld ?_
  try simp only [Act.put, List.setIfInBounds_toArray, List.set_cons_zero, List.set_cons_succ]
  refine hd_take (i := 4) (v := .iface 3 (.int .i64 x)) rfl (by kernel_rfl) (by kernel_rfl) (fun _ _ _ h => h) (Or.inl ⟨by rfl, fun w' hSw => by ((try dsimp only at hSw); go_simp)⟩) hHeld ?_
  try simp only [Act.put, List.setIfInBounds_toArray, List.set_cons_zero, List.set_cons_succ]
  refine hd_take (i := 5) (v := .int .i64 x) rfl (by kernel_rfl) (by kernel_rfl) (fun _ _ _ h => h) (Or.inl ⟨by rfl, fun w' hSw => by ((try dsimp only at hSw); go_simp)⟩) hHeld ?_
  try simp only [Act.put, List.setIfInBounds_toArray, List.set_cons_zero, List.set_cons_succ]
  refine hd_one (i := 6) rfl (by kernel_rfl) (by decide) (fun K hK => ?_)
  go_simp
  have hxn : Ext wd (wd.alloc (.cells #[.int .i64 x] 3)) := (Ext.refl wd).alloc _
  have hsn : SlC (wd.alloc (.cells #[.int .i64 x] 3)) (.slice (some ⟨wd.heap.size, 0, none⟩) 1 1) 1 [.int .i64 x] := SlC.fresh wd #[.int .i64 x] _ 1 _ rfl (by decide)
  refine hK.out _ _ (hxn.cell hHeld) (fun hHeld => ?_)
  clear hK K
  try simp only [Act.put, List.setIfInBounds_toArray, List.set_cons_zero, List.set_cons_succ]
  have HXN := Lib.hid (hxd.trans hxn)
  generalize (wd.alloc (.cells #[.int .i64 x] 3)) = wn at hxn hsn HXN hHeld ⊢
  generalize wd.heap.size = N at hsn ⊢
  have hpn := HP.out.1.next HXN.out
  have hon := ownsRow_ext HP.out.2.2.1 HXN.out
  have hvn := ext_block HXN.out HP.out.2.1
  refine hd_one (i := 7) rfl (by kernel_rfl) (by decide) (fun K hK => ?_)
  refine step_append_slc _ rfl (.tmp 7) (.tmp 10) 98 rfl base 3 (.int .i64 0) 1 8 Try.underlying98 infoInt rfl (by decide) (.slice va vm vc) l.length (i64s l) rfl hon _ 1 [.int .i64 x] rfl hsn rfl (by simp [Value.oneCell']) (by unfold maxLen; omega) (by omega) (Nat.le_trans hB HXN.out.size) ?_
  intro v3 w6 hown3 hg3 hat3
  obtain ⟨x9, y9, z9, rfl⟩ := own_slice3 hown3
  have hk6 : Kb (Value.ownBlock (.slice va vm vc)).toList wn w6 := Kb.grown hg3 (fun g hg => Option.mem_toList.2 hg)
  have hLn : L ∉ (Value.ownBlock (.slice va vm vc)).toList := fun e => HP.out.2.2.2 L (Option.mem_toList.1 e) rfl
  refine hK.out _ _ (hk6.cell hLn hHeld) (fun hHeld => ?_)
  clear hK K
  try simp only [Act.put, List.setIfInBounds_toArray, List.set_cons_zero, List.set_cons_succ]
  refine hd_one (i := 8) rfl (by kernel_rfl) (by decide) (fun K hK => ?_)
  go_simp
  refine hK.out _ _ hHeld (fun hHeld => ?_)
  clear hK K
  try simp only [Act.put, List.setIfInBounds_toArray, List.set_cons_zero, List.set_cons_succ]
  refine hd_end (by kernel_rfl) ?_
  simp only [List.drop_succ_cons, List.drop_zero]
  have hput := hpn.put (l' := l ++ [x]) hvn HP.out.2.2.2 hk6 (by rw [show i64s (l ++ [x]) = i64s l ++ [.int .i64 x] by simp [i64s], List.length_append]; exact hown3) (hat3.imp id (fun e => ⟨_, e, Nat.le_refl _⟩))
  have HPUT := Lib.hid hput
  have e2 : w6.frozen? ⟨L, 0, none⟩ = false := frozen_of_row _ _ _ _ _ (hk6.heap hLn hvn)
  have e3 : L < w6.heap.size := Nat.lt_of_lt_of_le hpn.lt hk6.size
  clear hput hk6 hLn hpn hon hvn hown3 hg3 hat3 hsn hxn hxd dL lL hta
  go_wp2_with fail
  refine NoPanic.normal ?_
  refine bodyPost_end (results_none rfl _ _ _) rfl ?_
  rw [HQ.out]
  have hkt : Kt (TbO L) w (w6.setCell ⟨L, 0, none⟩ (.slice x9 y9 z9)) := (Kt.of_ext HXN.out (fun k hk => HP.out.1.same HXN.out hk)).trans HPUT.out.2
  exact ⟨rfl, Lib.hid ⟨hkt, HPUT.out.1⟩⟩
set_option maxHeartbeats 8000000 in
theorem ppop_any {w : World} {base L : Nat} {l : List Int} (h : PLs w base L l) (h0 : 0 < l.length) (hn : l.length ≤ 1000000000000) :
    Calls Try.prog 129 #[.pointer (some ⟨L, 0, none⟩)] w (fun e w' => e = .returned (.iface 3 (.int .i64 (l.getD (l.length - 1) 0))) ∧ Hid (Kt (TbO L) w w' ∧ PLs w' base L (l.take (l.length - 1)))) := by
  obtain ⟨X, hX⟩ : ∃ X, X = l.getD (l.length - 1) 0 := ⟨_, rfl⟩
  rw [← hX]
  obtain ⟨Q, hQ⟩ : ∃ Q : Ending → World → Prop, Q = (fun e w' => e = .returned (.iface 3 (.int .i64 X)) ∧ Hid (Kt (TbO L) w w' ∧ PLs w' base L (l.take (l.length - 1)))) := ⟨_, rfl⟩
  rw [← hQ]
  have HQ := Lib.hid hQ
  obtain ⟨v, h1, h2, h3⟩ := h.ex
  obtain ⟨g, cap, rfl, hb, hc, hg⟩ := ownsRow_some h2 h0
  have HP := Lib.hid (And.intro h (And.intro h1 (And.intro h2 h3)))
  obtain ⟨n, hnl⟩ : ∃ n, n = l.length := ⟨_, rfl⟩
  have dL : w.cell? ⟨L, 0, none⟩ = some (.slice (some ⟨g, 0, none⟩) n cap) := by rw [cell_of_row w L 0 _ _ (0, 0) h1, hnl]; rfl
  have lL := h.lt
  have fL : w.frozen? ⟨L, 0, none⟩ = false := frozen_of_row _ _ _ _ _ h1
  have hcx := (own_cell1 h2 (l.length - 1) _ (i64s_at (by omega))).1
  rw [← hX, ← hnl] at hcx
  rw [← hnl] at hc h0 hn
  obtain ⟨m, hm⟩ : ∃ m, n = m + 1 := ⟨n - 1, by omega⟩
  subst hm
  rw [Nat.add_sub_cancel] at hcx
  have HN := Lib.hid hnl
  have hcb : (cap : Int) ≤ 9223372036854775807 := by
    obtain ⟨a', c', e, -, h5, -⟩ := SlC.of_owns h2
    simp only [Value.slice.injEq] at e
    rw [e.2.2]; unfold maxLen at h5; omega
  have hmc : m < cap := by omega
  have HXX := Lib.hid hX
  clear hQ h h1 h2 h3 hb hX hnl h0 hc
  go_enter Try.func129, Try.ntmps129
  go_wp2
  try go_ret
  rw [HQ.out]
  refine ⟨rfl, Lib.hid ?_⟩
  have h2 := HP.out.2.2.1
  rw [← HN.out] at h2
  have h3 := own_shorter h2 m (by omega)
  have h5 : l.length - 1 = m := by rw [← HN.out]; rfl
  have h4 := HP.out.1.put (l' := l.take m) (v' := .slice (some ⟨g, 0, none⟩) m cap) HP.out.2.1 HP.out.2.2.2 (Kb.refl _ w) (by
    have e1 : (l.take m).length = m := by rw [List.length_take, ← HN.out]; omega
    rw [e1, show i64s (l.take m) = (i64s l).take m by simp [i64s, List.map_take]]
    exact h3) (.inl rfl)
  rw [h5]
  exact ⟨h4.2, h4.1⟩
end Go.Proofs.Ytmommjagndadjaa
namespace Go.Proofs.Ytmommjagndadjaa
open Go.RowKit
set_option linter.unusedSimpArgs false
set_option linter.unusedVariables false
set_option maxRecDepth 100000

theorem upV_more : ∀ (f g : Nat) (l : List Int) (j : Nat), j < f → j < g → upV f l j = upV g l j
  | 0, _, _, _, h, _ => by omega
  | f + 1, 0, _, _, _, h => by omega
  | f + 1, g + 1, l, j, h1, h2 => by
    rw [upV, upV]
    split
    · rfl
    · rename_i h3
      have h4 : (j - 1) / 2 ≠ j := fun e => h3 (.inl e)
      exact upV_more f g _ _ (by omega) (by omega)
set_option maxHeartbeats 8000000 in
theorem hup_any {w : World} {base L : Nat} {l : List Int} (h : PLs w base L l) (j : Nat) (hj : j < l.length) (hn : l.length ≤ 1000000000000) :
    Calls Try.prog 64 #[.iface 97 (.pointer (some ⟨L, 0, none⟩)), .int .i64 (j : Int)] w (RetN (TbO L) (fun w' => PLs w' base L (upV (j + 1) l j)) w) := by
  obtain ⟨R, hR⟩ : ∃ R, R = upV (j + 1) l j := ⟨_, rfl⟩
  rw [← hR]
  obtain ⟨Q, hQ⟩ : ∃ Q, Q = RetN (TbO L) (fun w' => PLs w' base L R) w := ⟨_, rfl⟩
  rw [← hQ]
  have HQ := Lib.hid hQ
  have HR := Lib.hid hR
  have HP := Lib.hid h
  obtain ⟨n, hnl⟩ : ∃ n, n = l.length := ⟨_, rfl⟩
  rw [← hnl] at hj hn
  have HN := Lib.hid hnl
  clear hQ hR h hnl
  go_enter Try.func64, Try.ntmps64
  go_upto_region 0 with fail
  go_loopw [1] (fun jv wr => ∃ (j' : Nat) (l' : List Int), jv = .int .i64 (j' : Int) ∧ j' < n ∧ Hid (Kt (TbO L) w wr ∧ PLs wr base L l' ∧ l'.length = n) ∧ Hid (R = upV (j' + 1) l' j')) (fun jv _ => (intOf jv).toNat)
  case atStart => exact ⟨j, l, rfl, hj, Lib.hid ⟨Kt.refl _ _, HP.out, HN.out.symm⟩, HR⟩
  case round =>
    obtain ⟨j', l', rfl, hj', HS, HJ⟩ := hrel
    by_cases h0 : j' = 0
    · subst h0
      have HC : Hid (R = l') := Lib.hid (by rw [HJ.out, upV, if_pos (.inl rfl)])
      go_wp2
      refine bodyPost_end (results_none rfl _ _ _) rfl ?_
      rw [HQ.out, HC.out]
      exact ⟨rfl, Lib.hid ⟨HS.out.1, HS.out.2.1⟩⟩
    · have hq : (0 : Int) < (j' : Int) := by omega
      obtain ⟨i, hi⟩ : ∃ i, i = (j' - 1) / 2 := ⟨_, rfl⟩
      have hiI : ((j' : Int) - 1) / 2 = (i : Int) := by omega
      have hij : i < j' := by omega
      have HII := Lib.hid (And.intro hi hiI)
      clear hi hiI
      go_upto_region 1 with fail
      rw [HII.out.2]
      have hne : ((i : Int) == (j' : Int)) = false := by simp; omega
      have hl' := HS.out.2.2
      obtain ⟨v, hv, hL⟩ := HS.out.2.1.less (i := j') (j := i) (by rw [hl']; exact hj') (by rw [hl']; omega) (by rw [hl']; exact hn)
      have hm1 := reachLess hv
      obtain ⟨b, hb⟩ : ∃ b, b = decide (l'.getD j' 0 < l'.getD i 0) := ⟨_, rfl⟩
      rw [← hb] at hL
      have HL := Lib.hid hL
      have HB := Lib.hid hb
      clear hL hb hl'
      cases b with
      | false =>
        have HC : Hid (R = l') := Lib.hid (by
          have hnl : ¬ l'.getD j' 0 < l'.getD i 0 := fun e => by
            have h1 := HB.out
            rw [decide_eq_true e] at h1
            cases h1
          rw [HJ.out, upV, ← HII.out.1, if_pos (.inr hnl)])
        go_wp2_with (first | (go_at_call 128; refine HL.out.mono ?_; rintro e1 w2 ⟨rfl, H2⟩) | fail)
        refine bodyPost_end (results_none rfl _ _ _) rfl ?_
        rw [HQ.out, HC.out]
        exact ⟨rfl, Lib.hid ⟨HS.out.1.trans (Kt.of_ext H2.out (fun k hk => HS.out.2.1.same H2.out hk)), HS.out.2.1.next H2.out⟩⟩
      | true =>
        have HC : Hid (R = upV (i + 1) (swapV l' i j') i) := Lib.hid (by
          rw [HJ.out, upV, ← HII.out.1, if_neg ?_]
          · exact upV_more _ _ _ _ (by omega) (by omega)
          · rintro (e | e)
            · omega
            · have h1 := HB.out
              rw [decide_eq_false e] at h1
              cases h1)
        go_upto_region 2 with (first | (go_at_call 128; refine HL.out.mono ?_; rintro e1 w2 ⟨rfl, H2⟩) | fail)
        clear hm1
        have hl' := HS.out.2.2
        have hp2 := HS.out.2.1.next H2.out
        obtain ⟨v2, hv2, hS2⟩ := hp2.swap (i := i) (j := j') (by rw [hl']; omega) (by rw [hl']; exact hj') (by rw [hl']; exact hn)
        have hm2 := reachSwap hv2
        have HS2 := Lib.hid hS2
        clear hS2 hp2 hl'
        go_wp2_with (first | (go_at_call 131; refine HS2.out.mono ?_; rintro e3 w3 ⟨rfl, H3⟩) | fail)
        exact ⟨⟨i, swapV l' i j', rfl, by omega, Lib.hid ⟨(HS.out.1.trans (Kt.of_ext H2.out (fun k hk => HS.out.2.1.same H2.out hk))).trans H3.out.1, H3.out.2, by rw [← HS.out.2.2]; simp [swapV]⟩, HC⟩, by simp [intOf]; omega⟩
end Go.Proofs.Ytmommjagndadjaa
namespace Go.Proofs.Ytmommjagndadjaa
open Go.RowKit
set_option linter.unusedSimpArgs false
set_option linter.unusedVariables false
set_option maxRecDepth 100000

def downJ (l : List Int) (i n : Nat) : Nat := if 2 * i + 2 < n ∧ l.getD (2 * i + 2) 0 < l.getD (2 * i + 1) 0 then 2 * i + 2 else 2 * i + 1
/-- A step downwards, the place below known. -/
def downF (f : Nat) (l : List Int) (i j n : Nat) : List Int := if l.getD j 0 < l.getD i 0 then downV f (swapV l i j) j n else l
theorem downV_eq (f : Nat) (l : List Int) (i n : Nat) (h : ¬ n ≤ 2 * i + 1) : downV (f + 1) l i n = downF f l i (downJ l i n) n := by rw [downV, if_neg h]; rfl
theorem downV_end (f : Nat) (l : List Int) (i n : Nat) (h : n ≤ 2 * i + 1) : downV f l i n = l := by
  cases f with
  | zero => rfl
  | succ f => rw [downV, if_pos h]
theorem downV_more : ∀ (f g : Nat) (l : List Int) (i n : Nat), n ≤ i + f → n ≤ i + g → downV f l i n = downV g l i n
  | 0, g, l, i, n, h, _ => by rw [downV_end 0 l i n (by omega), downV_end g l i n (by omega)]
  | f + 1, 0, l, i, n, _, h => by rw [downV_end _ l i n (by omega), downV_end 0 l i n (by omega)]
  | f + 1, g + 1, l, i, n, h1, h2 => by
    by_cases h : n ≤ 2 * i + 1
    · rw [downV_end _ l i n h, downV_end _ l i n h]
    · rw [downV_eq _ _ _ _ h, downV_eq _ _ _ _ h]
      unfold downF
      have hj : i + 1 ≤ downJ l i n := by unfold downJ; split <;> omega
      rw [downV_more f g _ (downJ l i n) n (by omega) (by omega)]
theorem downF_no {f : Nat} {l : List Int} {i j n : Nat} (h : decide (l.getD j 0 < l.getD i 0) = false) : downF f l i j n = l := by
  unfold downF; rw [if_neg (of_decide_eq_false h)]
theorem downF_yes {f g : Nat} {l : List Int} {i j n : Nat} (h : decide (l.getD j 0 < l.getD i 0) = true) (h1 : n ≤ j + f) (h2 : n ≤ j + g) : downF f l i j n = downV g (swapV l i j) j n := by
  unfold downF; rw [if_pos (of_decide_eq_true h)]
  exact downV_more _ _ _ _ _ h1 h2
theorem downV_len : ∀ (f : Nat) (l : List Int) (i n : Nat), (downV f l i n).length = l.length
  | 0, l, i, n => rfl
  | f + 1, l, i, n => by
    by_cases h : n ≤ 2 * i + 1
    · rw [downV_end _ l i n h]
    · rw [downV_eq _ _ _ _ h]
      unfold downF
      split
      · rw [downV_len f]; simp [swapV]
      · rfl
set_option maxHeartbeats 16000000 in
theorem hdown_any {w : World} {base L : Nat} {l : List Int} (h : PLs w base L l) (i0 n : Nat) (hi0 : i0 ≤ 1000000000000) (hj : n ≤ l.length) (hn : l.length ≤ 1000000000000) :
    Calls Try.prog 65 #[.iface 97 (.pointer (some ⟨L, 0, none⟩)), .int .i64 (i0 : Int), .int .i64 (n : Int)] w (fun e w' => ∃ b, e = .returned (.bool b) ∧ Hid (Kt (TbO L) w w' ∧ PLs w' base L (downV (n - i0) l i0 n))) := by
  obtain ⟨R, hR⟩ : ∃ R, R = downV (n - i0) l i0 n := ⟨_, rfl⟩
  rw [← hR]
  obtain ⟨Q, hQ⟩ : ∃ Q : Ending → World → Prop, Q = (fun e w' => ∃ b, e = .returned (.bool b) ∧ Hid (Kt (TbO L) w w' ∧ PLs w' base L R)) := ⟨_, rfl⟩
  rw [← hQ]
  have HQ := Lib.hid hQ
  have HR := Lib.hid hR
  have HP := Lib.hid h
  obtain ⟨ln, hnl⟩ : ∃ n, n = l.length := ⟨_, rfl⟩
  rw [← hnl] at hj hn
  have HN := Lib.hid hnl
  clear hQ hR h hnl
  go_enter Try.func65, Try.ntmps65
  go_upto_region 2 with fail
  go_loopw [7] (fun iv wr => ∃ (i : Nat) (l' : List Int), iv = .int .i64 (i : Int) ∧ i ≤ 1000000000000 ∧ Hid (Kt (TbO L) w wr ∧ PLs wr base L l' ∧ l'.length = ln) ∧ Hid (R = downV (n - i) l' i n)) (fun iv _ => n - (intOf iv).toNat)
  case atStart => exact ⟨i0, l, rfl, by omega, Lib.hid ⟨Kt.refl _ _, HP.out, HN.out.symm⟩, HR⟩
  case round =>
    obtain ⟨i, l', rfl, hin, HS, HJ⟩ := hrel
    obtain ⟨j1, hj1⟩ : ∃ j, j = 2 * i + 1 := ⟨_, rfl⟩
    obtain ⟨j2, hj2⟩ : ∃ j, j = 2 * i + 2 := ⟨_, rfl⟩
    have HJ1 : Hid (2 * (i : Int) + 1 = (j1 : Int) ∧ (j1 : Int) + 1 = (j2 : Int) ∧ j1 = 2 * i + 1 ∧ j2 = 2 * i + 2) := Lib.hid ⟨by omega, by omega, hj1, hj2⟩
    have hij1 : i < j1 := by omega
    have hij2 : i < j2 := by omega
    clear hj1 hj2
    by_cases hA : n ≤ j1
    · have HC : Hid (R = l') := Lib.hid (by rw [HJ.out]; exact downV_end _ _ _ _ (by have := HJ1.out; omega))
      go_upto_region 3 with fail
      rw [HJ1.out.1]
      have hge : ¬ (j1 : Int) < (n : Int) := by omega
      have hge2 : (n : Int) ≤ (j1 : Int) := by omega
      go_wp2
      try go_ret
      rw [HQ.out, HC.out]
      exact ⟨_, rfl, Lib.hid ⟨HS.out.1, HS.out.2.1⟩⟩
    · have hin2 : i < n := by omega
      have HDV : Hid (R = downF (n - i - 1) l' i (downJ l' i n) n) := Lib.hid (by
        rw [HJ.out, show n - i = (n - i - 1) + 1 by omega]; exact downV_eq _ _ _ _ (by have := HJ1.out; omega))
      go_upto_region 3 with fail
      rw [HJ1.out.1]
      have hge : ¬ (n : Int) ≤ (j1 : Int) := by omega
      have hge2 : (j1 : Int) < (n : Int) := by omega
      have hge3 : ¬ (j1 : Int) < 0 := by omega
      go_upto_region 6 with fail
      try rw [HJ1.out.2.1]
      by_cases hB : j2 < n
      · have hBi : (j2 : Int) < (n : Int) := by omega
        have hl6 := HS.out.2.2
        obtain ⟨v6, hv6, hL6⟩ := HS.out.2.1.less (i := j2) (j := j1) (by rw [hl6]; omega) (by rw [hl6]; omega) (by rw [hl6]; exact hn)
        have hm6 := reachLess hv6
        obtain ⟨b6, hb6⟩ : ∃ b, b = decide (l'.getD j2 0 < l'.getD j1 0) := ⟨_, rfl⟩
        rw [← hb6] at hL6
        have HL6 := Lib.hid hL6
        have HB6 := Lib.hid hb6
        clear hL6 hb6 hl6
        cases b6 with
        | true =>
          have HD : Hid (R = downF (n - i - 1) l' i j2 n) := Lib.hid (by
            have h1 : downJ l' i n = j2 := by
              unfold downJ
              rw [← HJ1.out.2.2.1, ← HJ1.out.2.2.2, if_pos ⟨hB, of_decide_eq_true HB6.out.symm⟩]
            rw [HDV.out, h1])
          go_upto_region 8 with (first | (go_at_call 128; refine HL6.out.mono ?_; rintro e6 w6 ⟨rfl, H6⟩) | fail)
          clear hm6
          have hl8 := HS.out.2.2
          obtain ⟨v8, hv8, hL8⟩ := (HS.out.2.1.next H6.out).less (i := j2) (j := i) (by rw [hl8]; omega) (by rw [hl8]; omega) (by rw [hl8]; exact hn)
          have hm8 := reachLess hv8
          obtain ⟨b8, hb8⟩ : ∃ b, b = decide (l'.getD j2 0 < l'.getD i 0) := ⟨_, rfl⟩
          rw [← hb8] at hL8
          have HL8 := Lib.hid hL8
          have HB8 := Lib.hid hb8
          clear hL8 hb8 hl8
          cases b8 with
          | false =>
            have HC : Hid (R = l') := Lib.hid (by rw [HD.out]; exact downF_no HB8.out.symm)
            go_wp2_with (first | (go_at_call 128; refine HL8.out.mono ?_; rintro e8 w8 ⟨rfl, H8⟩) | fail)
            try go_ret
            rw [HQ.out, HC.out]
            exact ⟨_, rfl, Lib.hid ⟨(HS.out.1.trans (Kt.of_ext H6.out (fun k hk => HS.out.2.1.same H6.out hk))).trans (Kt.of_ext H8.out (fun k hk => (HS.out.2.1.next H6.out).same H8.out hk)), (HS.out.2.1.next H6.out).next H8.out⟩⟩
          | true =>
            have HC : Hid (R = downV (n - j2) (swapV l' i j2) j2 n) := Lib.hid (by rw [HD.out]; exact downF_yes HB8.out.symm (by omega) (by omega))
            go_upto_region 9 with (first | (go_at_call 128; refine HL8.out.mono ?_; rintro e8 w8 ⟨rfl, H8⟩) | fail)
            clear hm8
            have hl9 := HS.out.2.2
            have hp9 := (HS.out.2.1.next H6.out).next H8.out
            obtain ⟨v9, hv9, hS9⟩ := hp9.swap (i := i) (j := j2) (by rw [hl9]; omega) (by rw [hl9]; omega) (by rw [hl9]; exact hn)
            have hm9 := reachSwap hv9
            have HS9 := Lib.hid hS9
            clear hS9 hp9 hl9
            go_wp2_with (first | (go_at_call 131; refine HS9.out.mono ?_; rintro e9 w9 ⟨rfl, H9⟩) | fail)
            exact ⟨⟨j2, swapV l' i j2, rfl, by omega, Lib.hid ⟨((HS.out.1.trans (Kt.of_ext H6.out (fun k hk => HS.out.2.1.same H6.out hk))).trans (Kt.of_ext H8.out (fun k hk => (HS.out.2.1.next H6.out).same H8.out hk))).trans H9.out.1, H9.out.2, by rw [← HS.out.2.2]; simp [swapV]⟩, HC⟩, by simp [intOf]; omega⟩
        | false =>
          have HD : Hid (R = downF (n - i - 1) l' i j1 n) := Lib.hid (by
            have h1 : downJ l' i n = j1 := by
              unfold downJ
              rw [← HJ1.out.2.2.1, ← HJ1.out.2.2.2, if_neg (fun e => of_decide_eq_false HB6.out.symm e.2)]
            rw [HDV.out, h1])
          go_upto_region 8 with (first | (go_at_call 128; refine HL6.out.mono ?_; rintro e6 w6 ⟨rfl, H6⟩) | fail)
          clear hm6
          have hl8 := HS.out.2.2
          obtain ⟨v8, hv8, hL8⟩ := (HS.out.2.1.next H6.out).less (i := j1) (j := i) (by rw [hl8]; omega) (by rw [hl8]; omega) (by rw [hl8]; exact hn)
          have hm8 := reachLess hv8
          obtain ⟨b8, hb8⟩ : ∃ b, b = decide (l'.getD j1 0 < l'.getD i 0) := ⟨_, rfl⟩
          rw [← hb8] at hL8
          have HL8 := Lib.hid hL8
          have HB8 := Lib.hid hb8
          clear hL8 hb8 hl8
          cases b8 with
          | false =>
            have HC : Hid (R = l') := Lib.hid (by rw [HD.out]; exact downF_no HB8.out.symm)
            go_wp2_with (first | (go_at_call 128; refine HL8.out.mono ?_; rintro e8 w8 ⟨rfl, H8⟩) | fail)
            try go_ret
            rw [HQ.out, HC.out]
            exact ⟨_, rfl, Lib.hid ⟨(HS.out.1.trans (Kt.of_ext H6.out (fun k hk => HS.out.2.1.same H6.out hk))).trans (Kt.of_ext H8.out (fun k hk => (HS.out.2.1.next H6.out).same H8.out hk)), (HS.out.2.1.next H6.out).next H8.out⟩⟩
          | true =>
            have HC : Hid (R = downV (n - j1) (swapV l' i j1) j1 n) := Lib.hid (by rw [HD.out]; exact downF_yes HB8.out.symm (by omega) (by omega))
            go_upto_region 9 with (first | (go_at_call 128; refine HL8.out.mono ?_; rintro e8 w8 ⟨rfl, H8⟩) | fail)
            clear hm8
            have hl9 := HS.out.2.2
            have hp9 := (HS.out.2.1.next H6.out).next H8.out
            obtain ⟨v9, hv9, hS9⟩ := hp9.swap (i := i) (j := j1) (by rw [hl9]; omega) (by rw [hl9]; omega) (by rw [hl9]; exact hn)
            have hm9 := reachSwap hv9
            have HS9 := Lib.hid hS9
            clear hS9 hp9 hl9
            go_wp2_with (first | (go_at_call 131; refine HS9.out.mono ?_; rintro e9 w9 ⟨rfl, H9⟩) | fail)
            exact ⟨⟨j1, swapV l' i j1, rfl, by omega, Lib.hid ⟨((HS.out.1.trans (Kt.of_ext H6.out (fun k hk => HS.out.2.1.same H6.out hk))).trans (Kt.of_ext H8.out (fun k hk => (HS.out.2.1.next H6.out).same H8.out hk))).trans H9.out.1, H9.out.2, by rw [← HS.out.2.2]; simp [swapV]⟩, HC⟩, by simp [intOf]; omega⟩
      · have hBi : ¬ (j2 : Int) < (n : Int) := by omega
        have HD : Hid (R = downF (n - i - 1) l' i j1 n) := Lib.hid (by
          have h1 : downJ l' i n = j1 := by
            unfold downJ
            rw [← HJ1.out.2.2.1, ← HJ1.out.2.2.2, if_neg (fun e => hB e.1)]
          rw [HDV.out, h1])
        go_upto_region 8 with fail
        have hl8 := HS.out.2.2
        obtain ⟨v8, hv8, hL8⟩ := (HS.out.2.1).less (i := j1) (j := i) (by rw [hl8]; omega) (by rw [hl8]; omega) (by rw [hl8]; exact hn)
        have hm8 := reachLess hv8
        obtain ⟨b8, hb8⟩ : ∃ b, b = decide (l'.getD j1 0 < l'.getD i 0) := ⟨_, rfl⟩
        rw [← hb8] at hL8
        have HL8 := Lib.hid hL8
        have HB8 := Lib.hid hb8
        clear hL8 hb8 hl8
        cases b8 with
        | false =>
          have HC : Hid (R = l') := Lib.hid (by rw [HD.out]; exact downF_no HB8.out.symm)
          go_wp2_with (first | (go_at_call 128; refine HL8.out.mono ?_; rintro e8 w8 ⟨rfl, H8⟩) | fail)
          try go_ret
          rw [HQ.out, HC.out]
          exact ⟨_, rfl, Lib.hid ⟨(HS.out.1).trans (Kt.of_ext H8.out (fun k hk => (HS.out.2.1).same H8.out hk)), (HS.out.2.1).next H8.out⟩⟩
        | true =>
          have HC : Hid (R = downV (n - j1) (swapV l' i j1) j1 n) := Lib.hid (by rw [HD.out]; exact downF_yes HB8.out.symm (by omega) (by omega))
          go_upto_region 9 with (first | (go_at_call 128; refine HL8.out.mono ?_; rintro e8 w8 ⟨rfl, H8⟩) | fail)
          clear hm8
          have hl9 := HS.out.2.2
          have hp9 := (HS.out.2.1).next H8.out
          obtain ⟨v9, hv9, hS9⟩ := hp9.swap (i := i) (j := j1) (by rw [hl9]; omega) (by rw [hl9]; omega) (by rw [hl9]; exact hn)
          have hm9 := reachSwap hv9
          have HS9 := Lib.hid hS9
          clear hS9 hp9 hl9
          go_wp2_with (first | (go_at_call 131; refine HS9.out.mono ?_; rintro e9 w9 ⟨rfl, H9⟩) | fail)
          exact ⟨⟨j1, swapV l' i j1, rfl, by omega, Lib.hid ⟨((HS.out.1).trans (Kt.of_ext H8.out (fun k hk => (HS.out.2.1).same H8.out hk))).trans H9.out.1, H9.out.2, by rw [← HS.out.2.2]; simp [swapV]⟩, HC⟩, by simp [intOf]; omega⟩
set_option maxHeartbeats 8000000 in
theorem hpush_any {w : World} {base L : Nat} {l : List Int} (h : PLs w base L l) (x : Int) (hn : l.length ≤ 999999999999) (hB : base ≤ w.heap.size) :
    Calls Try.prog 41 #[.iface 97 (.pointer (some ⟨L, 0, none⟩)), .iface 3 (.int .i64 x)] w (RetN (TbO L) (fun w' => PLs w' base L (pushV l x)) w) := by
  obtain ⟨Q, hQ⟩ : ∃ Q, Q = RetN (TbO L) (fun w' => PLs w' base L (pushV l x)) w := ⟨_, rfl⟩
  rw [← hQ]
  have HQ := Lib.hid hQ
  have HP := Lib.hid h
  obtain ⟨n, hnl⟩ : ∃ n, n = l.length := ⟨_, rfl⟩
  have HN := Lib.hid hnl
  have HPU := Lib.hid (ppush_any h x (by omega) hB)
  have hm1 := methPush ⟨L, 0, none⟩ w
  have hnb : n ≤ 999999999999 := by omega
  clear hQ h hn hnl
  go_enter Try.func41, Try.ntmps41
  go_upto_region 1 with (first | (go_at_call 130; refine HPU.out.mono ?_; rintro e1 w1 ⟨rfl, H1⟩) | fail)
  clear hm1
  obtain ⟨v, hv, hL⟩ := H1.out.2.len
  have hm2 := reachLen hv
  have hlen : (l ++ [x]).length = n + 1 := by rw [List.length_append, HN.out]; rfl
  rw [hlen] at hL
  have HL := Lib.hid hL
  have HUP : Hid (Calls Try.prog 64 #[.iface 97 (.pointer (some ⟨L, 0, none⟩)), .int .i64 (n : Int)] w1 (RetN (TbO L) (fun w' => PLs w' base L (pushV l x)) w1)) := Lib.hid (by
    have h1 := hup_any H1.out.2 n (by rw [hlen]; omega) (by rw [hlen]; omega)
    have h2 : pushV l x = upV (n + 1) (l ++ [x]) n := by unfold pushV; rw [HN.out]
    rw [h2]
    exact h1)
  clear hL hlen
  go_wp2_with (first | (go_at_call 48; refine HL.out.mono ?_; rintro e2 w2 ⟨rfl, rfl⟩) | (go_at_call 64; refine HUP.out.mono ?_; rintro e3 w3 ⟨rfl, H3⟩) | fail)
  refine bodyPost_end (results_none rfl _ _ _) rfl ?_
  rw [HQ.out]
  exact ⟨rfl, Lib.hid ⟨H1.out.1.trans H3.out.1, H3.out.2⟩⟩
set_option maxHeartbeats 8000000 in
theorem hpop_any {w : World} {base L : Nat} {l : List Int} (h : PLs w base L l) (h0 : 0 < l.length) (hn : l.length ≤ 1000000000000) :
    Calls Try.prog 43 #[.iface 97 (.pointer (some ⟨L, 0, none⟩))] w (fun e w' => e = .returned (.iface 3 (.int .i64 (popV l).1)) ∧ Hid (Kt (TbO L) w w' ∧ PLs w' base L (popV l).2)) := by
  obtain ⟨n, hnl⟩ : ∃ n, l.length = n + 1 := ⟨l.length - 1, by omega⟩
  obtain ⟨X, hX⟩ : ∃ X, X = (popV l).1 := ⟨_, rfl⟩
  rw [← hX]
  obtain ⟨Q, hQ⟩ : ∃ Q : Ending → World → Prop, Q = (fun e w' => e = .returned (.iface 3 (.int .i64 X)) ∧ Hid (Kt (TbO L) w w' ∧ PLs w' base L (popV l).2)) := ⟨_, rfl⟩
  rw [← hQ]
  have HQ := Lib.hid hQ
  have HP := Lib.hid h
  obtain ⟨v1, hv1, hL1⟩ := h.len
  have hm1 := reachLen hv1
  rw [hnl] at hL1 hn
  have HL1 := Lib.hid hL1
  obtain ⟨v2, hv2, hS2⟩ := h.swap (i := 0) (j := n) (by omega) (by omega) (by omega)
  have hm2 := reachSwap hv2
  have HS2 := Lib.hid hS2
  have HN := Lib.hid hnl
  have HXX : Hid (X = (downV (n + 1) (swapV l 0 n) 0 n).getD n 0 ∧ (popV l).2 = (downV (n + 1) (swapV l 0 n) 0 n).take n) := Lib.hid (by
    rw [hX]
    unfold popV
    rw [hnl]
    exact ⟨rfl, rfl⟩)
  clear hL1 hS2 hX hQ h hnl
  go_enter Try.func43, Try.ntmps43
  go_upto_region 3 with (first | (go_at_call 48; refine HL1.out.mono ?_; rintro e1 w1 ⟨rfl, rfl⟩) | (go_at_call 131; refine HS2.out.mono ?_; rintro e2 w2 ⟨rfl, H2⟩) | fail)
  have hsl : (swapV l 0 n).length = n + 1 := by rw [← HN.out]; simp [swapV]
  have HDN : Hid (Calls Try.prog 65 #[.iface 97 (.pointer (some ⟨L, 0, none⟩)), .int .i64 0, .int .i64 (n : Int)] w2 (fun e w' => ∃ b, e = .returned (.bool b) ∧ Hid (Kt (TbO L) w2 w' ∧ PLs w' base L (downV (n + 1) (swapV l 0 n) 0 n)))) := Lib.hid (by
    have h1 := hdown_any H2.out.2 0 n (by omega) (by rw [hsl]; omega) (by rw [hsl]; omega)
    rw [downV_more (n - 0) (n + 1) _ 0 n (by omega) (by omega)] at h1
    exact h1)
  clear hm1 hm2 hv1 hv2
  go_upto_region 4 with (first | (go_at_call 65; refine HDN.out.mono ?_; rintro e3 w3 ⟨b3, rfl, H3⟩) | fail)
  have hdl : (downV (n + 1) (swapV l 0 n) 0 n).length = n + 1 := by rw [downV_len, hsl]
  have hm4 := methPop ⟨L, 0, none⟩ w3
  have HPO : Hid (Calls Try.prog 129 #[.pointer (some ⟨L, 0, none⟩)] w3 (fun e w' => e = .returned (.iface 3 (.int .i64 X)) ∧ Hid (Kt (TbO L) w3 w' ∧ PLs w' base L (popV l).2))) := Lib.hid (by
    have h1 := ppop_any H3.out.2 (by rw [hdl]; omega) (by rw [hdl]; omega)
    rw [hdl, Nat.add_sub_cancel, ← HXX.out.1, ← HXX.out.2] at h1
    exact h1)
  clear hdl hsl
  go_wp2_with (first | (go_at_call 129; refine HPO.out.mono ?_; rintro e4 w4 ⟨rfl, H4⟩) | fail)
  try go_ret
  rw [HQ.out]
  exact ⟨rfl, Lib.hid ⟨(H2.out.1.trans H3.out.1).trans H4.out.1, H4.out.2⟩⟩
end Go.Proofs.Ytmommjagndadjaa
namespace Go.Proofs.Ytmommjagndadjaa
open Go.RowKit
set_option linter.unusedSimpArgs false
set_option linter.unusedVariables false
set_option maxRecDepth 100000

/-! ### Sums -/
def sumN (l : List Int) : Nat := (l.map Int.toNat).sum
theorem sumN_set : ∀ (l : List Int) (i : Nat) (x : Int), i < l.length → sumN (l.set i x) + (l.getD i 0).toNat = sumN l + x.toNat
  | [], i, x, h => by simp at h
  | y :: l, 0, x, h => by simp [sumN]; omega
  | y :: l, i + 1, x, h => by
    have := sumN_set l i x (by simpa using h)
    simp only [sumN, List.set_cons_succ, List.map_cons, List.sum_cons, List.getD_cons_succ] at this ⊢
    omega
theorem sumN_rep (n : Nat) : sumN (List.replicate n 0) = 0 := by
  induction n with
  | zero => rfl
  | succ n ih => rw [List.replicate_succ]; simp only [sumN, List.map_cons, List.sum_cons] at ih ⊢; omega
/-! ### Elements of a heap -/
theorem swapV_len (l : List Int) (i j : Nat) : (swapV l i j).length = l.length := by simp [swapV]
theorem getD_mem {l : List Int} {i : Nat} (h : i < l.length) : l.getD i 0 ∈ l := by
  rw [show l.getD i 0 = l[i] by simp [List.getD, List.getElem?_eq_getElem h]]
  exact List.getElem_mem h
theorem swapV_mem {l : List Int} {i j : Nat} (hi : i < l.length) (hj : j < l.length) {x : Int} (h : x ∈ swapV l i j) : x ∈ l := by
  unfold swapV at h
  rcases List.mem_or_eq_of_mem_set h with h | rfl
  · rcases List.mem_or_eq_of_mem_set h with h | rfl
    · exact h
    · exact getD_mem hj
  · exact getD_mem hi
theorem upV_len : ∀ (f : Nat) (l : List Int) (j : Nat), (upV f l j).length = l.length
  | 0, l, j => rfl
  | f + 1, l, j => by
    rw [upV]
    split
    · rfl
    · rw [upV_len f, swapV_len]
theorem upV_mem : ∀ (f : Nat) (l : List Int) (j : Nat), j < l.length → ∀ {x : Int}, x ∈ upV f l j → x ∈ l
  | 0, l, j, _, x, h => h
  | f + 1, l, j, hj, x, h => by
    rw [upV] at h
    split at h
    · exact h
    · have h1 := upV_mem f _ _ (by rw [swapV_len]; omega) h
      exact swapV_mem (by omega) hj h1
theorem pushV_len (l : List Int) (x : Int) : (pushV l x).length = l.length + 1 := by unfold pushV; rw [upV_len]; simp
theorem pushV_mem {l : List Int} {y x : Int} (h : x ∈ pushV l y) : x ∈ l ∨ x = y := by
  unfold pushV at h
  have := upV_mem _ _ _ (by simp) h
  simpa using this
theorem downJ_lt {l : List Int} {i n : Nat} (h : ¬ n ≤ 2 * i + 1) : downJ l i n < n := by unfold downJ; split <;> omega
theorem downV_mem : ∀ (f : Nat) (l : List Int) (i n : Nat), i < l.length → n ≤ l.length → ∀ {x : Int}, x ∈ downV f l i n → x ∈ l
  | 0, l, i, n, _, _, x, h => h
  | f + 1, l, i, n, hi, hn, x, h => by
    by_cases h1 : n ≤ 2 * i + 1
    · rw [downV_end _ l i n h1] at h; exact h
    · rw [downV_eq _ _ _ _ h1] at h
      unfold downF at h
      have h3 := downJ_lt (l := l) h1
      split at h
      · have h2 := downV_mem f _ _ _ (by rw [swapV_len]; omega) (by rw [swapV_len]; exact hn) h
        exact swapV_mem hi (by omega) h2
      · exact h
theorem popV_len {l : List Int} (h : l ≠ []) : (popV l).2.length + 1 = l.length := by
  have h1 := List.length_pos_iff.2 h
  unfold popV
  simp only [List.length_take, downV_len, swapV_len]
  omega
theorem popV_mem {l : List Int} (h : l ≠ []) : (popV l).1 ∈ l ∧ ∀ x ∈ (popV l).2, x ∈ l := by
  have h1 := List.length_pos_iff.2 h
  have h2 : ∀ x, x ∈ downV l.length (swapV l 0 (l.length - 1)) 0 (l.length - 1) → x ∈ l := fun x hx =>
    swapV_mem h1 (by omega) (downV_mem _ _ _ _ (by rw [swapV_len]; exact h1) (by rw [swapV_len]; omega) hx)
  unfold popV
  refine ⟨h2 _ (getD_mem (by rw [downV_len, swapV_len]; omega)), fun x hx => h2 x (List.mem_of_mem_take hx)⟩
/-! ### Who waits for whom -/
def stepW (v : Int) (s : List Int × List (List Int)) (w : Int) : List Int × List (List Int) := (incV s.1 v 1, s.2.set w.toNat (s.2.getD w.toNat [] ++ [v]))
theorem waitsV_at {on : List (List Int)} {k : Nat} {l : List Int} (h : on[k]? = some l) (v : Int) (s : List Int × List (List Int)) : waitsV (on.drop k) v s = waitsV (on.drop (k + 1)) (v + 1) ((onceV [] l).foldl (stepW v) s) := by
  rw [drop_at h, waitsV]; rfl
theorem onceV_in {l : List Int} {j : Nat} {w : Int} (h : l[j]? = some w) {sn : List Int} (hs : w ∈ sn) : onceV sn (l.drop j) = onceV sn (l.drop (j + 1)) := by
  rw [drop_at h, onceV, if_pos hs]
theorem onceV_new {l : List Int} {j : Nat} {w : Int} (h : l[j]? = some w) {sn : List Int} (hs : w ∉ sn) : onceV sn (l.drop j) = w :: onceV (w :: sn) (l.drop (j + 1)) := by
  rw [drop_at h, onceV, if_neg hs]
/-- What holds of both lists when c entries were looked at. -/
structure WB (n c : Nat) (s : List Int × List (List Int)) : Prop where
  n1 : s.1.length = n
  n2 : s.2.length = n
  lo : ∀ x ∈ s.1, 0 ≤ x ∧ x ≤ (c : Int)
  sum : sumN s.1 ≤ c
  beh : ∀ l ∈ s.2, l.length ≤ c ∧ ∀ y ∈ l, 0 ≤ y ∧ y < (n : Int)
theorem WB.mono {n c d : Nat} {s : List Int × List (List Int)} (h : WB n c s) (hd : c ≤ d) : WB n d s :=
  ⟨h.n1, h.n2, fun x hx => by have := h.lo x hx; omega, Nat.le_trans h.sum hd, fun l hl => ⟨Nat.le_trans (h.beh l hl).1 hd, (h.beh l hl).2⟩⟩
theorem WB.zero (n : Nat) : WB n 0 (List.replicate n 0, List.replicate n []) :=
  ⟨by simp, by simp, fun x hx => by rw [List.eq_of_mem_replicate hx]; omega, by rw [sumN_rep]; exact Nat.le_refl _, fun l hl => by rw [List.eq_of_mem_replicate hl]; simp⟩
theorem WB.step {n c : Nat} {s : List Int × List (List Int)} (h : WB n c s) {v w : Nat} (hv : v < n) (hw : w < n) : WB n (c + 1) (stepW v s w) := by
  have h1 : s.1.getD v 0 ∈ s.1 := getD_mem (by rw [h.n1]; exact hv)
  have h2 := h.lo _ h1
  have e1 : (v : Int).toNat = v := Int.toNat_natCast v
  have e2 : (w : Int).toNat = w := Int.toNat_natCast w
  unfold stepW incV
  rw [e1, e2]
  refine ⟨by simp [h.n1], by simp [h.n2], fun x hx => ?_, ?_, fun l hl => ?_⟩
  · rcases List.mem_or_eq_of_mem_set hx with hx | rfl
    · have := h.lo x hx; omega
    · omega
  · have h3 := sumN_set s.1 v (s.1.getD v 0 + 1) (by rw [h.n1]; exact hv)
    have h4 := h.sum
    show sumN (s.1.set v (s.1.getD v 0 + 1)) ≤ c + 1
    omega
  · rcases List.mem_or_eq_of_mem_set hl with hl | rfl
    · exact ⟨Nat.le_succ_of_le (h.beh l hl).1, (h.beh l hl).2⟩
    · have h5 : s.2.getD w [] ∈ s.2 := by
        rw [show s.2.getD w [] = s.2[w]'(by rw [h.n2]; exact hw) by simp [List.getD, List.getElem?_eq_getElem (show w < s.2.length by rw [h.n2]; exact hw)]]
        exact List.getElem_mem _
      obtain ⟨h6, h7⟩ := h.beh _ h5
      refine ⟨by rw [List.length_append]; exact Nat.succ_le_succ h6, fun y hy => ?_⟩
      rcases List.mem_append.1 hy with hy | hy
      · exact h7 y hy
      · rw [List.mem_singleton.1 hy]; omega
/-! ### Going on -/
theorem readyV_at {l : List Int} {k : Nat} {x : Int} (h : l[k]? = some x) (v : Int) (hp : List Int) : readyV (l.drop k) v hp = readyV (l.drop (k + 1)) (v + 1) (if x = 0 then pushV hp v else hp) := by
  rw [drop_at h, readyV]
theorem freeV_at {l : List Int} {k : Nat} {w : Int} (h : l[k]? = some w) (s : List Int × List Int) : freeV (l.drop k) s = freeV (l.drop (k + 1)) (incV s.1 w (-1), if (incV s.1 w (-1)).getD w.toNat 0 = 0 then pushV s.2 w else s.2) := by
  rw [drop_at h, freeV]
/-- What holds of the waiting and the heap while it goes on: f more than all that can come, no number below -lo. -/
structure GB (n f lo hi : Nat) (W h : List Int) : Prop where
  len : W.length = n
  lb : ∀ x ∈ W, -(lo : Int) ≤ x ∧ x ≤ (hi : Int)
  phi : h.length + sumN W ≤ f
  mem : ∀ x ∈ h, 0 ≤ x ∧ x < (n : Int)
theorem GB.free {n f lo hi : Nat} {W h : List Int} (g : GB n f lo hi W h) {w : Nat} (hw : w < n) : GB n f (lo + 1) hi (incV W w (-1)) (if (incV W w (-1)).getD w 0 = 0 then pushV h w else h) := by
  have h1 : W.getD w 0 ∈ W := getD_mem (by rw [g.len]; exact hw)
  have h2 := g.lb _ h1
  have e1 : (w : Int).toNat = w := Int.toNat_natCast w
  have h3 := sumN_set W w (W.getD w 0 + -1) (by rw [g.len]; exact hw)
  have h4 := g.phi
  have e2 : incV W w (-1) = W.set w (W.getD w 0 + -1) := by unfold incV; rw [e1]
  have e3 : (incV W w (-1)).getD w 0 = W.getD w 0 + -1 := by
    rw [e2, List.getD, List.getElem?_set_self (by rw [g.len]; exact hw)]; rfl
  rw [e3, e2]
  refine ⟨by simp [g.len], fun x hx => ?_, ?_, fun x hx => ?_⟩
  · rcases List.mem_or_eq_of_mem_set hx with hx | rfl
    · have := g.lb x hx; omega
    · omega
  · split
    · rw [pushV_len]; omega
    · omega
  · split at hx
    · rcases pushV_mem hx with hx | rfl
      · exact g.mem x hx
      · omega
    · exact g.mem x hx
theorem GB.pop {n f lo hi : Nat} {W h : List Int} (g : GB n (f + 1) lo hi W h) (hne : h ≠ []) : GB n f lo hi W (popV h).2 ∧ 0 ≤ (popV h).1 ∧ (popV h).1 < (n : Int) := by
  obtain ⟨h1, h2⟩ := popV_mem hne
  have h3 := popV_len hne
  have h4 := g.phi
  exact ⟨⟨g.len, g.lb, by omega, fun x hx => g.mem x (h2 x hx)⟩, g.mem _ h1⟩
theorem GB.mono {n f lo hi lo2 : Nat} {W h : List Int} (g : GB n f lo hi W h) (hl : lo ≤ lo2) : GB n f lo2 hi W h := ⟨g.len, fun x hx => by have := g.lb x hx; omega, g.phi, g.mem⟩
theorem goV_nil (f : Nat) (b : List (List Int)) (W out : List Int) : goV f b W [] out = out := by
  cases f with
  | zero => rfl
  | succ f => rw [goV, if_pos rfl]
theorem goV_step (f : Nat) (b : List (List Int)) (W h out : List Int) (hne : h ≠ []) : goV (f + 1) b W h out = goV f b (freeV (b.getD (popV h).1.toNat []) (W, (popV h).2)).1 (freeV (b.getD (popV h).1.toNat []) (W, (popV h).2)).2 (out ++ [(popV h).1]) := by
  rw [goV, if_neg hne]
end Go.Proofs.Ytmommjagndadjaa
namespace Go.Proofs.Ytmommjagndadjaa
open Go.RowKit Go.Maps
set_option linter.unusedSimpArgs false
set_option linter.unusedVariables false
set_option maxRecDepth 100000

theorem tb_congr {O : Nat} {w w' : World} (h : w'.heap[O]? = w.heap[O]?) (k : Nat) : TbO O w' k ↔ TbO O w k := by
  unfold TbO
  have e : ∀ j, w'.cell? ⟨O, j, none⟩ = w.cell? ⟨O, j, none⟩ := fun j => by unfold World.cell?; simp only [h]
  simp only [e]
theorem RWs.blk {w w' : World} {base O n : Nat} {vs : List Value} {ls : List (List Int)} (h : RWs w base O n vs ls) (hk : ∀ k, TbO O w k → w'.heap[k]? = w.heap[k]?) : RWs w' base O n vs ls := by
  refine ⟨h.nv, h.nl, by rw [hk O (.inl rfl)]; exact h.top, h.lo, fun j v l h1 h2 => ?_, h.off, h.ap⟩
  obtain ⟨e1, e2⟩ := h.row j v l h1 h2
  refine ⟨e1, e2.imp id ?_⟩
  rintro ⟨g, cap, cur, rfl, h3, h4, r⟩
  exact ⟨g, cap, cur, rfl, h3, by rw [hk g (.inr ⟨j, _, by rw [h.cell]; exact h1, rfl⟩)]; exact h4, r⟩
theorem own_blk {w w' : World} {base n : Nat} {e : TypeId} {v : Value} {xs : List Value} (h : w.ownsRow base e 1 v n xs) (hk : ∀ k, v.ownBlock = some k → w'.heap[k]? = w.heap[k]?) : w'.ownsRow base e 1 v n xs := by
  refine ⟨h.1, h.2.imp id ?_⟩
  rintro ⟨g, cap, cur, rfl, h4, h5, r⟩
  exact ⟨g, cap, cur, rfl, h4, by rw [hk g rfl]; exact h5, r⟩
theorem PLs.blk {w w' : World} {base L : Nat} {l : List Int} (h : PLs w base L l) (hk : ∀ k, TbO L w k → w'.heap[k]? = w.heap[k]?) : PLs w' base L l := by
  obtain ⟨v, h1, h2, h3⟩ := h.ex
  exact ⟨⟨v, by rw [hk L (.inl rfl)]; exact h1, own_blk h2 (fun k hk1 => hk k (.inr ⟨0, v, by rw [cell_of_row w L 0 _ _ (0, 0) h1]; rfl, hk1⟩)), h3⟩, h.lo⟩
/-- While the lists are made. -/
structure S1 (w0 : World) (A O n : Nat) (W : List Int) (ls : List (List Int)) (w : World) : Prop where
  ext : Ext w0 w
  wr : w.ownsRow w0.heap.size 3 1 (.slice (some ⟨A, 0, none⟩) n n) n (i64s W)
  rw : ∃ vs, RWs w w0.heap.size O n vs ls
  aO : ¬ TbO O w A
section
variable {w0 w w' w1 : World} {A O n : Nat} {W : List Int} {ls : List (List Int)}
theorem S1.next (h : S1 w0 A O n W ls w) (hx : Ext w w') : S1 w0 A O n W ls w' := by
  obtain ⟨vs, hv⟩ := h.rw
  exact ⟨h.ext.trans hx, ownsRow_ext h.wr hx, ⟨vs, hv.ext hx⟩, fun e => h.aO (hv.same hx e)⟩
theorem S1.tb (h : S1 w0 A O n W ls w) {k : Nat} (hk : TbO O w k) : w0.heap.size ≤ k ∧ k < w.heap.size := by
  obtain ⟨vs, hv⟩ := h.rw
  exact hv.tb hk
theorem S1.same (h : S1 w0 A O n W ls w) (hx : Ext w w') {k : Nat} (hk : TbO O w' k) : TbO O w k := by
  obtain ⟨vs, hv⟩ := h.rw
  exact hv.same hx hk
theorem S1.len (h : S1 w0 A O n W ls w) : W.length = n := by simpa using h.wr.1
theorem S1.at (h : S1 w0 A O n W ls w) {j : Nat} (hj : j < n) : w.cell? ⟨A, j, none⟩ = some (.int .i64 (W.getD j 0)) ∧ w.frozen? ⟨A, j, none⟩ = false ∧ A < w.heap.size := by
  obtain ⟨h1, h2⟩ := own_cell1 h.wr j _ (i64s_at (by rw [h.len]; exact hj))
  exact ⟨h1, h2, World.block_lt_of_cell? w _ h1⟩
theorem S1.kb {S : List Nat} (h : S1 w0 A O n W ls w) (hk : Kb S w w') (h0 : ∀ k ∈ S, w0.heap.size ≤ k) (hA : A ∉ S) (hS : ∀ k ∈ S, ¬ TbO O w k) : S1 w0 A O n W ls w' := by
  obtain ⟨vs, hv⟩ := h.rw
  exact ⟨hk.ext h.ext h0, hk.row h.wr (fun g hg e => by simp [Value.ownBlock] at e; subst e; exact hA hg), ⟨vs, hv.kb hk hS⟩, fun e => h.aO (hv.kbTb hk hS e)⟩
theorem S1.setA (h : S1 w0 A O n W ls w) {j : Nat} (hj : j < n) (x : Int) : S1 w0 A O n (W.set j x) ls (w.setCell ⟨A, j, none⟩ (.int .i64 x)) ∧ ∀ k, TbO O (w.setCell ⟨A, j, none⟩ (.int .i64 x)) k → TbO O w k := by
  obtain ⟨vs, hv⟩ := h.rw
  have hk : Kb [A] w (w.setCell ⟨A, j, none⟩ (.int .i64 x)) := Kb.set _ _ _ (by simp) _
  have hS : ∀ k ∈ [A], ¬ TbO O w k := fun k hk => by simp at hk; subst hk; exact h.aO
  refine ⟨⟨hk.ext h.ext (fun k hk => by simp at hk; subst hk; exact (h.wr.lt _ rfl).1), ?_, ⟨vs, hv.kb hk hS⟩, fun e => h.aO (hv.kbTb hk hS e)⟩, fun k e => hv.kbTb hk hS e⟩
  rw [← i64s_set]
  exact own_set1 h.wr j hj _
theorem S1.put (h : S1 w0 A O n W ls w) {vs : List Value} (hv : RWs w w0.heap.size O n vs ls) {j : Nat} {v v' : Value} {l : List Int} {x : Int} (hvj : vs[j]? = some v) (hl : ls[j]? = some l) (hk : Kb v.ownBlock.toList w w1)
    (ho : w1.ownsRow w0.heap.size 3 1 v' (l.length + 1) (i64s (l ++ [x]))) (hat : v'.ownBlock = v.ownBlock ∨ ∃ g, v'.ownBlock = some g ∧ w.heap.size ≤ g) :
    S1 w0 A O n W (ls.set j (l ++ [x])) (w1.setCell ⟨O, j, none⟩ v') ∧ Kt (TbO O) w (w1.setCell ⟨O, j, none⟩ v') := by
  obtain ⟨h1, h2⟩ := hv.put hvj hl hk ho hat
  have hA := (h.wr.lt A rfl).2
  exact ⟨⟨h2.ext h.ext (fun k hk => (hv.tb hk).1), own_blk h.wr (fun k hk => by simp [Value.ownBlock] at hk; subst hk; exact h2.block _ hA h.aO), ⟨_, h1⟩, fun e => h.aO (h2.old A hA e)⟩, h2⟩
end
/-- While it goes on. -/
structure S2 (w0 : World) (A O L n : Nat) (W : List Int) (vs : List Value) (ls : List (List Int)) (h : List Int) (ov : Value) (out : List Int) (w : World) : Prop where
  s1 : S1 w0 A O n W ls w
  rv : RWs w w0.heap.size O n vs ls
  pl : PLs w w0.heap.size L h
  ou : w.ownsRow w0.heap.size 3 1 ov out.length (i64s out)
  aL : ¬ TbO L w A
  OL : ∀ k, TbO O w k → ¬ TbO L w k
  oA : ov.ownBlock ≠ some A
  oO : ∀ k, ov.ownBlock = some k → ¬ TbO O w k ∧ ¬ TbO L w k
section
variable {w0 w w' w1 : World} {A O L n : Nat} {W h h' out : List Int} {ls : List (List Int)} {vs : List Value} {ov : Value}
theorem S2.next (s : S2 w0 A O L n W vs ls h ov out w) (hx : Ext w w') : S2 w0 A O L n W vs ls h ov out w' :=
  ⟨s.s1.next hx, s.rv.ext hx, s.pl.next hx, ownsRow_ext s.ou hx, fun e => s.aL (s.pl.same hx e), fun k e1 e2 => s.OL k (s.s1.same hx e1) (s.pl.same hx e2), s.oA, fun k hk => ⟨fun e => (s.oO k hk).1 (s.s1.same hx e), fun e => (s.oO k hk).2 (s.pl.same hx e)⟩⟩
theorem S2.setA (s : S2 w0 A O L n W vs ls h ov out w) {j : Nat} (hj : j < n) (x : Int) : S2 w0 A O L n (W.set j x) vs ls h ov out (w.setCell ⟨A, j, none⟩ (.int .i64 x)) := by
  obtain ⟨h1, h2⟩ := s.s1.setA hj x
  have hk : Kb [A] w (w.setCell ⟨A, j, none⟩ (.int .i64 x)) := Kb.set _ _ _ (by simp) _
  have hL : (w.setCell ⟨A, j, none⟩ (.int .i64 x)).heap[L]? = w.heap[L]? := hk.block L s.pl.lt (by simp; exact fun e => s.aL (.inl e.symm))
  refine ⟨h1, s.rv.kb hk (fun k hk1 => by simp at hk1; subst hk1; exact s.s1.aO), s.pl.blk (fun k hk1 => hk.block k (s.pl.tb hk1).2 (by simp; rintro rfl; exact s.aL hk1)), own_blk s.ou (fun k hk1 => hk.block k (s.ou.lt k hk1).2 (by simp; rintro rfl; exact s.oA hk1)), fun e => s.aL ((tb_congr hL _).1 e), fun k e1 e2 => s.OL k (h2 k e1) ((tb_congr hL _).1 e2), s.oA, fun k hk1 => ⟨fun e => (s.oO k hk1).1 (h2 k e), fun e => (s.oO k hk1).2 ((tb_congr hL _).1 e)⟩⟩
theorem S2.heap (s : S2 w0 A O L n W vs ls h ov out w) (hk : Kt (TbO L) w w') (hp : PLs w' w0.heap.size L h') : S2 w0 A O L n W vs ls h' ov out w' := by
  have hA := (s.s1.wr.lt A rfl).2
  have hv := s.rv
  have hOb : ∀ k, TbO O w k → w'.heap[k]? = w.heap[k]? := fun k hk1 => hk.block k (hv.tb hk1).2 (s.OL k hk1)
  have hO := fun k => (tb_congr (hOb O (.inl rfl)) k)
  refine ⟨⟨hk.ext s.s1.ext (fun k hk1 => (s.pl.tb hk1).1), own_blk s.s1.wr (fun k hk1 => by simp [Value.ownBlock] at hk1; subst hk1; exact hk.block _ hA s.aL), ⟨vs, hv.blk hOb⟩, fun e => s.s1.aO ((hO _).1 e)⟩, hv.blk hOb, hp, own_blk s.ou (fun k hk1 => hk.block k (s.ou.lt k hk1).2 (s.oO k hk1).2), fun e => s.aL (hk.old A hA e), fun k e1 e2 => ?_, s.oA, fun k hk1 => ⟨fun e => (s.oO k hk1).1 ((hO _).1 e), fun e => (s.oO k hk1).2 (hk.old k (s.ou.lt k hk1).2 e)⟩⟩
  have h1 := (hO k).1 e1
  exact s.OL k h1 (hk.old k (hv.tb h1).2 e2)
theorem S2.push (s : S2 w0 A O L n W vs ls h ov out w) {ov' : Value} {x : Int} (hk : Kb ov.ownBlock.toList w w1) (ho : w1.ownsRow w0.heap.size 3 1 ov' (out.length + 1) (i64s (out ++ [x]))) (hat : ov'.ownBlock = ov.ownBlock ∨ ∃ g, ov'.ownBlock = some g ∧ w.heap.size ≤ g) : S2 w0 A O L n W vs ls h ov' (out ++ [x]) w1 := by
  have hv := s.rv
  have hS : ∀ k ∈ ov.ownBlock.toList, ¬ TbO O w k := fun k hk1 => (s.oO k (Option.mem_toList.1 hk1)).1
  have hA : A ∉ ov.ownBlock.toList := fun e => s.oA (Option.mem_toList.1 e)
  have h1 := s.s1.kb hk (fun k hk1 => (s.ou.lt k (Option.mem_toList.1 hk1)).1) hA hS
  have hLb : ∀ k, TbO L w k → w1.heap[k]? = w.heap[k]? := fun k hk1 => hk.block k (s.pl.tb hk1).2 (fun e => (s.oO k (Option.mem_toList.1 e)).2 hk1)
  have hL := fun k => tb_congr (hLb L (.inl rfl)) k
  have hO := fun k (e : TbO O w1 k) => hv.kbTb hk hS e
  refine ⟨h1, hv.kb hk hS, s.pl.blk hLb, by rw [List.length_append]; exact ho, fun e => s.aL ((hL _).1 e), fun k e1 e2 => s.OL k (hO k e1) ((hL _).1 e2), ?_, fun k hk1 => ?_⟩
  · rcases hat with e | ⟨g, e, hg⟩
    · rw [e]; exact s.oA
    · rw [e]
      have := (s.s1.wr.lt A rfl).2
      simp; omega
  · rcases hat with e | ⟨g, e, hg⟩
    · rw [e] at hk1
      exact ⟨fun e1 => (s.oO k hk1).1 (hO k e1), fun e1 => (s.oO k hk1).2 ((hL _).1 e1)⟩
    · rw [e] at hk1
      simp at hk1
      subst hk1
      exact ⟨fun e1 => by have := (hv.tb (hO _ e1)).2; omega, fun e1 => by have := (s.pl.tb ((hL _).1 e1)).2; omega⟩
end
/-! ### What was seen -/
def seenL (l : List Int) : List (Int × Value) := l.map fun x => (x, .int .i64 1)
theorem find_seen (n : Int) : ∀ l : List Int, (findI (seenL l) n).getD (.int .i64 0) = .int .i64 (if n ∈ l then 1 else 0)
  | [] => rfl
  | x :: l => by
    by_cases h : x = n
    · subst h
      rw [show seenL (x :: l) = (x, .int .i64 1) :: seenL l from rfl, findI_same]
      simp
    · rw [show seenL (x :: l) = (x, .int .i64 1) :: seenL l from rfl, findI_other h, find_seen n l]
      have : (n ∈ x :: l) ↔ n ∈ l := by simp [Ne.symm h]
      simp [this]
end Go.Proofs.Ytmommjagndadjaa
namespace Go.Proofs.Ytmommjagndadjaa
open Go.RowKit Go.Maps
set_option linter.unusedSimpArgs false
set_option linter.unusedVariables false
set_option maxRecDepth 100000

def RetS (n : Nat) (out : List Int) (w : World) (e : Ending) (w' : World) : Prop := ∃ p cap, e = .returned (.tuple #[.slice p out.length cap, .bool (decide (out.length = n))]) ∧ Hid (SlC w' (.slice p out.length cap) out.length (i64s out) ∧ Ext w w')
theorem czeroInt (w : World) : (zeroValue 3).run Try.prog w = .ok (.int .i64 0) w := by kernel_rfl
theorem cnt_at {on : List (List Int)} {k : Nat} {l : List Int} (h : on[k]? = some l) : ((on.take (k + 1)).map List.length).sum = ((on.take k).map List.length).sum + l.length := by
  obtain ⟨h1, h2⟩ := List.getElem?_eq_some_iff.1 h
  rw [List.take_succ_eq_append_getElem h1, h2]
  simp
theorem cnt_le (on : List (List Int)) (k : Nat) : ((on.take k).map List.length).sum ≤ (on.map List.length).sum := by
  have h : on.map List.length = (on.take k).map List.length ++ (on.drop k).map List.length := by rw [← List.map_append, List.take_append_drop]
  rw [h, List.sum_append]
  exact Nat.le_add_right _ _
set_option maxHeartbeats 16000000 in
theorem csort_any {w : World} {p : Option Addr} {n c : Nat} {vs : List Value} {on : List (List Int)} (hr : RowsIn w (.slice p n c) vs on) (hn : n = on.length) (hn1 : n ≤ 100000) (hE : (on.map List.length).sum ≤ 1000000000) (hin : ∀ l ∈ on, ∀ x ∈ l, 0 ≤ x ∧ x < (n : Int)) :
    Calls Try.prog 28 #[.slice p n c] w (RetS n (sortV on) w) := by
  obtain ⟨Q, hQ⟩ : ∃ Q, Q = RetS n (sortV on) w := ⟨_, rfl⟩
  rw [← hQ]
  have HQ := Lib.hid hQ
  have HR := Lib.hid (And.intro hr (And.intro hn hin))
  obtain ⟨E, hEE⟩ : ∃ E, E = (on.map List.length).sum := ⟨_, rfl⟩
  rw [← hEE] at hE
  have HEE := Lib.hid hEE
  have hcc : n ≤ c ∧ (c : Int) ≤ 9223372036854775807 := by
    obtain ⟨a', c', e, h1, h2, -⟩ := hr.top
    simp only [Value.slice.injEq] at e
    rw [e.2.2, hn]
    unfold maxLen at h2
    exact ⟨h1, by omega⟩
  obtain ⟨hcc, hcI⟩ := hcc
  clear hQ hr hn hin hEE
  have hmk := @run_makeMap Try.prog
  have hmk1 := run_make_row' (P := Try.prog) 36 3 (.int .i64 0) 8 Try.underlying36 infoInt rfl .i64 .i64 n (by omega) (by omega)
  have hmk2 := run_make_row' (P := Try.prog) 42 36 (.slice none 0 0) 24 Try.underlying42 infoInts rfl .i64 .i64 n (by omega) (by omega)
  go_enter Try.func28, Try.ntmps28
  go_upto_region 4 with fail
  have hbo : ((w.alloc (.cells (madeCells #[.int .i64 0] n) 3)).alloc (.cells (madeCells #[.slice none 0 0] n) 36)).heap[w.heap.size + 1]? = some (.cells (madeCells #[.slice none 0 0] n) 36 (0, 0)) := heap_alloc_at _ _ _ (by simp)
  have hba : ((w.alloc (.cells (madeCells #[.int .i64 0] n) 3)).alloc (.cells (madeCells #[.slice none 0 0] n) 36)).heap[w.heap.size]? = some (.cells (madeCells #[.int .i64 0] n) 3 (0, 0)) := ext_block ((Ext.refl _).alloc _) (heap_alloc_last w _)
  have hxo : Ext w ((w.alloc (.cells (madeCells #[.int .i64 0] n) 3)).alloc (.cells (madeCells #[.slice none 0 0] n) 36)) := ((Ext.refl _).alloc _).alloc _
  generalize ((w.alloc (.cells (madeCells #[.int .i64 0] n) 3)).alloc (.cells (madeCells #[.slice none 0 0] n) 36)) = wo at hbo hba hxo ⊢
  obtain ⟨A, hA⟩ : ∃ z, z = w.heap.size := ⟨_, rfl⟩
  obtain ⟨O, hO⟩ : ∃ z, z = A + 1 := ⟨_, rfl⟩
  rw [← hA, ← hO] at hbo
  rw [← hA] at hba
  rw [← hA, ← hO]
  have hs1 : S1 w A O n (List.replicate n 0) (List.replicate n []) wo := by
    refine ⟨hxo, ?_, ⟨_, RWs.made hbo (by omega)⟩, fun e => by have := RWs.made_tb hbo e; omega⟩
    have h1 := own_made (e := 3) (K := n) (base := w.heap.size) A (.int .i64 0) (by omega) (by unfold maxLen; omega) hba
    rw [show i64s (List.replicate n 0) = List.replicate n (.int .i64 0) by simp [i64s]]
    exact h1
  have HS0 := Lib.hid hs1
  clear hbo hba hxo hs1 hA hO hmk1 hmk2
  go_loopw [26] (fun iv wr => ∃ (v : Nat) (s : List Int × List (List Int)), v ≤ n ∧ iv = .int .i64 (v : Int) ∧ Hid (S1 w A O n s.1 s.2 wr) ∧ Hid (waitsV on 0 (List.replicate n 0, List.replicate n []) = waitsV (on.drop v) (v : Int) s ∧ WB n ((on.take v).map List.length).sum s)) (fun iv _ => n - (intOf iv).toNat)
  case atStart => exact ⟨0, _, Nat.zero_le _, rfl, HS0, Lib.hid ⟨rfl, WB.zero n⟩⟩
  case round =>
    obtain ⟨v, s, hv, rfl, HS, HJ⟩ := hrel
    by_cases hlt : v < n
    · have hvi : (v : Int) < (n : Int) := Int.ofNat_lt.2 hlt
      obtain ⟨xv, r, hx, hr, hrow⟩ := HR.out.1.at (j := v) (by rw [← HR.out.2.1]; exact hlt)
      obtain ⟨pr, cr, rfl, hrc, hrm, hrcell⟩ := hrow
      have htop : ∃ b o, p = some ⟨b, o, none⟩ ∧ wr.cell? ⟨b, o + v, none⟩ = some (.slice pr r.length cr) := by
        obtain ⟨a', c', e, h1, h2, h3⟩ := HR.out.1.top
        simp only [Value.slice.injEq] at e
        obtain ⟨b, o, e1, e2⟩ := h3 v _ hx
        exact ⟨b, o, by rw [e.1, e1], HS.out.ext.cell e2⟩
      obtain ⟨b, o, rfl, ct⟩ := htop
      have hbl := World.block_lt_of_cell? wr _ ct
      have hvc : v < c := by omega
      obtain ⟨m, hm⟩ : ∃ m, m = r.length := ⟨_, rfl⟩
      rw [← hm] at ct hrc
      have hcrI : (cr : Int) ≤ 9223372036854775807 := by unfold maxLen at hrm; omega
      have HRR : Hid (on[v]? = some r ∧ m = r.length ∧ ∀ (j : Nat) (u : Value), (i64s r)[j]? = some u → ∃ b o, pr = some ⟨b, o, none⟩ ∧ w.cell? ⟨b, o + j, none⟩ = some u) := Lib.hid ⟨hr, hm, hrcell⟩
      have hmE : m ≤ 1000000000 := by
        have h1 := cnt_at hr
        have h2 := cnt_le on (v + 1)
        have := HEE.out
        omega
      obtain ⟨cn, hcn⟩ : ∃ z, z = ((on.take v).map List.length).sum := ⟨_, rfl⟩
      have hcE : cn + m ≤ E := by
        have h1 := cnt_at hr
        have h2 := cnt_le on (v + 1)
        have := HEE.out
        omega
      have HCN := Lib.hid hcn
      clear hx hr hrcell hm hrm hcn
      go_upto_region 8 with fail
      have him : IM Try.prog 3 wr.heap.size [] (wr.alloc (.map #[] 0)) := IM.made _ _ wr
      have hxm : Ext wr (wr.alloc (.map #[] 0)) := (Ext.refl _).alloc _
      have hs2 := HS.out.next hxm
      have hmn : ¬ TbO O (wr.alloc (.map #[] 0)) wr.heap.size := fun e => by have := (HS.out.tb (HS.out.same hxm e)).2; omega
      have hmA : wr.heap.size ≠ A := by have := (HS.out.wr.lt A rfl).2; omega
      generalize wr.alloc (.map #[] 0) = wm at him hxm hs2 hmn ⊢
      obtain ⟨M, hM⟩ : ∃ z, z = wr.heap.size := ⟨_, rfl⟩
      rw [← hM] at him hmn hmA
      rw [← hM]
      have HM0 : Hid (S1 w A O n s.1 s.2 wm ∧ IM Try.prog 3 M [] wm ∧ ¬ TbO O wm M ∧ M ≠ A) := Lib.hid ⟨hs2, him, hmn, hmA⟩
      have HMW : Hid (w.heap.size ≤ M) := Lib.hid (by rw [hM]; exact HS.out.ext.size)
      clear him hxm hs2 hmn hmA hM ct hbl
      go_loopw [34] (fun iv wr => ∃ (j : Nat) (sn : List Int) (s2 : List Int × List (List Int)), j ≤ m ∧ iv = .int .i64 (j : Int) ∧ sn.length ≤ j ∧ Hid (S1 w A O n s2.1 s2.2 wr ∧ IM Try.prog 3 M (seenL sn) wr ∧ ¬ TbO O wr M) ∧ Hid ((onceV [] r).foldl (stepW (v : Int)) s = (onceV sn (r.drop j)).foldl (stepW (v : Int)) s2 ∧ WB n (cn + j) s2)) (fun iv _ => m - (intOf iv).toNat)
      case atStart => exact ⟨0, [], s, Nat.zero_le _, rfl, Nat.le_refl _, Lib.hid ⟨HM0.out.1, HM0.out.2.1, HM0.out.2.2.1⟩, Lib.hid ⟨rfl, by have := HJ.out.2; rw [← HCN.out] at this; exact this⟩⟩
      case round =>
        obtain ⟨j, sn, s2, hj, rfl, hsn, HT, HK⟩ := hrel
        by_cases hlt2 : j < m
        · have hji : (j : Int) < (m : Int) := Int.ofNat_lt.2 hlt2
          obtain ⟨x, hx⟩ : ∃ x, r[j]? = some x := ⟨_, List.getElem?_eq_getElem (by rw [← HRR.out.2.1]; exact hlt2)⟩
          have hxb := HR.out.2.2 r (List.mem_of_getElem? HRR.out.1) x (List.mem_of_getElem? hx)
          obtain ⟨q, hq⟩ : ∃ q : Nat, x = (q : Int) := ⟨x.toNat, by omega⟩
          subst hq
          have hqn : q < n := by omega
          have hqi : (q : Int) < (n : Int) := by omega
          obtain ⟨b2, o2, rfl, cx⟩ := HRR.out.2.2 j (.int .i64 (q : Int)) (by simp [i64s, hx])
          have cx := HT.out.1.ext.cell cx
          have cxl := World.block_lt_of_cell? wr _ cx
          have hjcr : j < cr := by omega
          have HX := Lib.hid hx
          have hlk : (Instr.lookup 82 (.map (some M)) (.int .i64 (q : Int)) false).run Try.prog wr = .ok (.int .i64 (if (q : Int) ∈ sn then 1 else 0)) wr := by
            rw [← find_seen]
            exact HT.out.2.1.look Try.underlying3 Try.underlying82 (czeroInt wr) (wfI (by unfold I64; omega))
          clear hx hxb
          by_cases hs : (q : Int) ∈ sn
          · rw [if_pos hs] at hlk
            have HC : Hid ((onceV [] r).foldl (stepW (v : Int)) s = (onceV sn (r.drop (j + 1))).foldl (stepW (v : Int)) s2) := Lib.hid (by rw [HK.out.1, onceV_in HX.out hs])
            clear hs
            go_wp2
            exact ⟨⟨j + 1, sn, s2, by omega, by go_num, by omega, HT, Lib.hid ⟨HC.out, HK.out.2.mono (by omega)⟩⟩, by simp [intOf]; omega⟩
          · rw [if_neg hs] at hlk
            have HC : Hid ((onceV [] r).foldl (stepW (v : Int)) s = (onceV ((q : Int) :: sn) (r.drop (j + 1))).foldl (stepW (v : Int)) (stepW (v : Int) s2 (q : Int)) ∧ WB n (cn + j + 1) (stepW (v : Int) s2 (q : Int))) := Lib.hid ⟨by rw [HK.out.1, onceV_new HX.out hs, List.foldl_cons], HK.out.2.step hlt hqn⟩
            obtain ⟨w9, hrun, hm9, hg9⟩ := HT.out.2.1.put Try.underlying3 Try.underlying82 (by unfold seenL maxLen; simp; omega) (wfI (n := (q : Int)) (by unfold I64; omega)) (.int .i64 1)
            have hk9 : Kb [M] wr w9 := Kb.grown hg9 (fun g hg => by simp at hg; simp [hg])
            have hs9 := HT.out.1.kb hk9 (by have := HMW.out; simp; omega) (by have := HM0.out.2.2.2; simp; omega) (by simp; exact HT.out.2.2)
            have hn9 : ¬ TbO O w9 M := fun e => HT.out.2.2 ((tb_congr (hk9.block O (by obtain ⟨vs', hv'⟩ := HT.out.1.rw; exact hv'.lt) (by simp; intro e2; exact HT.out.2.2 (.inl e2.symm))) _).1 e)
            have H9 := Lib.hid (And.intro hs9 (And.intro hm9 hn9))
            clear hs hk9 hs9 hn9 hm9 hg9
            go_upto_region 12 with fail
            clear hrun hlk cx cxl
            obtain ⟨a1, a2, a3⟩ := H9.out.1.at hlt
            obtain ⟨X, hX⟩ : ∃ z, z = s2.1.getD v 0 := ⟨_, rfl⟩
            rw [← hX] at a1
            have hXb : 0 ≤ X ∧ X ≤ 1000000000 := by
              have h1 := HK.out.2.lo X (by rw [hX]; exact getD_mem (by rw [HK.out.2.n1]; exact hlt))
              omega
            obtain ⟨hX0, hX1⟩ := hXb
            have HXD := Lib.hid hX
            clear hX
            go_upto_region 13 with fail
            obtain ⟨hs13, ht13⟩ := H9.out.1.setA hlt (X + 1)
            have hkA : Kb [A] w9 (w9.setCell ⟨A, v, none⟩ (.int .i64 (X + 1))) := Kb.set _ _ _ (by simp) _
            have him := H9.out.2.1.kb hkA (by have := HM0.out.2.2.2; simp; omega)
            have hnm : ¬ TbO O (w9.setCell ⟨A, v, none⟩ (.int .i64 (X + 1))) M := fun e => H9.out.2.2 (ht13 M e)
            clear a1 a2 a3
            generalize w9.setCell ⟨A, v, none⟩ (.int .i64 (X + 1)) = wb at hs13 ht13 hkA him hnm ⊢
            obtain ⟨vs2, hv2⟩ := hs13.rw
            obtain ⟨vq, hvq⟩ : ∃ u, vs2[q]? = some u := ⟨_, List.getElem?_eq_getElem (by rw [hv2.nv]; exact hqn)⟩
            obtain ⟨l, hl⟩ := hv2.has hvq
            have hown := hv2.row q vq l hvq hl
            obtain ⟨va, vm, vc, rfl⟩ := own_slice3 hown
            have hll : l.length ≤ 1000000000 := by
              have h1 := (HK.out.2.beh l (List.mem_of_getElem? hl)).1
              omega
            have H13 := Lib.hid (And.intro hs13 (And.intro hv2 (And.intro hvq (And.intro hl (And.intro hown (And.intro him hnm))))))
            have cO : wb.cell? ⟨O, q, none⟩ = some (.slice va vm vc) := by rw [hv2.cell]; exact hvq
            have lO := hv2.lt
            have hwb : w.heap.size ≤ wb.heap.size := hs13.ext.size
            clear hs13 ht13 hkA him hnm hv2 hvq hl hown
            go_wp2_with (at_builtin; (refine wpList_append_slc _ rfl (.tmp 55) (.tmp 57) 36 rfl w.heap.size 3 (.int .i64 0) 1 8 Try.underlying36 infoInt rfl (by decide) (.slice va vm vc) l.length (i64s l) rfl (H13.out.2.2.2.2.1.alloc (.cells #[.int .i64 (v : Int)] 3)) _ 1 [.int .i64 (v : Int)] rfl (SlC.fresh _ #[.int .i64 (v : Int)] _ 1 _ (by simp) (by decide)) rfl (by simp [Value.oneCell']) (by unfold maxLen; omega) (by omega) (by simp; omega) ?_; intro v9 wc hown9 hg9 hat9; obtain ⟨xc, yc, zc, rfl⟩ := own_slice3 hown9; have hkc : Kb (Value.ownBlock (.slice va vm vc)).toList (wb.alloc (.cells #[.int .i64 (v : Int)] 3)) wc := Kb.grown hg9 (fun g hg => Option.mem_toList.2 hg); have hrn := H13.out.2.1.ext ((Ext.refl wb).alloc (.cells #[.int .i64 (v : Int)] 3)); have hOn : O ∉ (Value.ownBlock (.slice va vm vc)).toList := fun e => H13.out.2.1.off q _ O H13.out.2.2.1 (Option.mem_toList.1 e) rfl; have e1 : wc.cell? ⟨O, q, none⟩ = some (.slice va vm vc) := hkc.cell hOn (by rw [hrn.cell]; exact H13.out.2.2.1); have e2 : wc.frozen? ⟨O, q, none⟩ = false := frozen_of_row _ _ _ _ _ (hkc.heap hOn hrn.top); have e3 : O < wc.heap.size := Nat.lt_of_lt_of_le hrn.lt hkc.size; have HC9 := Lib.hid (And.intro hown9 (And.intro hat9 (And.intro hkc hrn))); clear hown9 hg9 hat9 hkc hrn hOn cO lO))
            have hsn := H13.out.1.next ((Ext.refl wb).alloc (.cells #[.int .i64 (v : Int)] 3))
            obtain ⟨hp1, hp2⟩ := hsn.put (x := (v : Int)) HC9.out.2.2.2 H13.out.2.2.1 H13.out.2.2.2.1 HC9.out.2.2.1 (by rw [show i64s (l ++ [(v : Int)]) = i64s l ++ [.int .i64 (v : Int)] by simp [i64s]]; exact HC9.out.1) (HC9.out.2.1.imp id (fun e => ⟨_, e, Nat.le_refl _⟩))
            have hMl := (H13.out.2.2.2.2.2.1.ext ((Ext.refl wb).alloc (.cells #[.int .i64 (v : Int)] 3)))
            have hMt : ¬ TbO O (wb.alloc (.cells #[.int .i64 (v : Int)] 3)) M := fun e => H13.out.2.2.2.2.2.2 (H13.out.1.same ((Ext.refl wb).alloc _) e)
            have hst : stepW (v : Int) s2 (q : Int) = (s2.1.set v (X + 1), s2.2.set q (l ++ [(v : Int)])) := by
              unfold stepW incV
              rw [Int.toNat_natCast, Int.toNat_natCast, ← HXD.out]
              have h1 : s2.2.getD q [] = l := by rw [List.getD, H13.out.2.2.2.1]; rfl
              rw [h1]
            refine ⟨⟨j + 1, (q : Int) :: sn, stepW (v : Int) s2 (q : Int), by omega, by go_num, by simp; omega, Lib.hid ⟨by rw [hst]; exact hp1, hMl.at (hp2.block M hMl.lt hMt), fun e => hMt (hp2.old M hMl.lt e)⟩, HC⟩, by simp [intOf]; omega⟩
        · have hji : ¬ (j : Int) < (m : Int) := fun e => hlt2 (Int.ofNat_lt.1 e)
          obtain rfl : j = m := by omega
          have HC : Hid (waitsV on 0 (List.replicate n 0, List.replicate n []) = waitsV (on.drop (v + 1)) ((v : Int) + 1) s2 ∧ WB n ((on.take (v + 1)).map List.length).sum s2) := Lib.hid (by
            have h1 := HK.out.1
            rw [HRR.out.2.1, List.drop_length] at h1
            refine ⟨by rw [HJ.out.1, waitsV_at HRR.out.1, h1]; rfl, ?_⟩
            rw [cnt_at HRR.out.1, ← HCN.out, ← HRR.out.2.1]
            exact HK.out.2)
          go_wp2
          exact ⟨⟨v + 1, s2, by omega, by go_num, Lib.hid HT.out.1, HC⟩, by simp [intOf]; omega⟩
    · have hvi : ¬ (v : Int) < (n : Int) := fun e => hlt (Int.ofNat_lt.1 e)
      obtain rfl : v = n := by omega
      have HC : Hid (waitsV on 0 (List.replicate v 0, List.replicate v []) = s ∧ WB v E s) := Lib.hid (by
        refine ⟨by rw [HJ.out.1, HR.out.2.1, List.drop_length, waitsV], ?_⟩
        have := HJ.out.2
        rw [show on.take v = on by rw [HR.out.2.1, List.take_length], ← HEE.out] at this
        exact this)
      go_upto_region 18 with fail
      have hnb : ((wr.alloc (.cells #[] 3)).alloc (.cells #[.slice (some ⟨wr.heap.size, 0, none⟩) 0 0] 98)).heap[wr.heap.size]? = some (.cells #[] 3 (0, 0)) := ext_block ((Ext.refl _).alloc _) (heap_alloc_last wr _)
      have hlb : ((wr.alloc (.cells #[] 3)).alloc (.cells #[.slice (some ⟨wr.heap.size, 0, none⟩) 0 0] 98)).heap[wr.heap.size + 1]? = some (.cells #[.slice (some ⟨wr.heap.size, 0, none⟩) 0 0] 98 (0, 0)) := heap_alloc_at _ _ _ (by simp)
      have hxl : Ext wr ((wr.alloc (.cells #[] 3)).alloc (.cells #[.slice (some ⟨wr.heap.size, 0, none⟩) 0 0] 98)) := ((Ext.refl _).alloc _).alloc _
      have hs2 := HS.out.next hxl
      generalize ((wr.alloc (.cells #[] 3)).alloc (.cells #[.slice (some ⟨wr.heap.size, 0, none⟩) 0 0] 98)) = wl at hnb hlb hxl hs2 ⊢
      obtain ⟨N, hN⟩ : ∃ z, z = wr.heap.size := ⟨_, rfl⟩
      obtain ⟨L, hL⟩ : ∃ z, z = N + 1 := ⟨_, rfl⟩
      rw [← hN, ← hL] at hlb
      rw [← hN] at hnb
      rw [← hN, ← hL]
      obtain ⟨vs9, hv9⟩ := hs2.rw
      have hst : S2 w A O L v s.1 vs9 s.2 [] (.slice none 0 0) [] wl := by
        have hN2 : w.heap.size ≤ N := by rw [hN]; exact HS.out.ext.size
        have hpl : PLs wl w.heap.size L [] := ⟨⟨_, hlb, ⟨rfl, .inr ⟨N, 0, #[], rfl, hN2, hnb, Nat.le_refl _, Nat.zero_le _, rfl, rfl⟩⟩, fun b hb => by simp [Value.ownBlock] at hb; omega⟩, by omega⟩
        have htL : ∀ z, TbO L wl z → N ≤ z := fun z hz => by
          rcases hz with rfl | ⟨j, u, h1, h2⟩
          · omega
          · rw [cell_of_row wl L j _ _ (0, 0) hlb] at h1
            cases j with
            | zero =>
              simp at h1
              subst h1
              simp [Value.ownBlock] at h2
              omega
            | succ j => simp at h1
        have hA2 := (HS.out.wr.lt A rfl).2
        refine ⟨hs2, hv9, hpl, own_nil _ _ _ _, fun e => by have := htL _ e; omega, fun z h1 h2 => ?_, by simp [Value.ownBlock], fun z hz => by simp [Value.ownBlock] at hz⟩
        have h3 := htL z h2
        have h4 := (HS.out.tb (HS.out.same hxl h1)).2
        omega
      have HST := Lib.hid hst
      clear hnb hlb hxl hs2 hv9 hst hN hL
      go_loopw [66] (fun iv wr => ∃ (k : Nat) (h : List Int), k ≤ v ∧ iv = .int .i64 (k : Int) ∧ h.length ≤ k ∧ Hid (S2 w A O L v s.1 vs9 s.2 h (.slice none 0 0) [] wr) ∧ Hid (readyV s.1 0 [] = readyV (s.1.drop k) (k : Int) h ∧ ∀ x ∈ h, 0 ≤ x ∧ x < (v : Int))) (fun iv _ => v - (intOf iv).toNat)
      case atStart => exact ⟨0, [], Nat.zero_le _, rfl, Nat.le_refl _, HST, Lib.hid ⟨rfl, fun x hx => by simp at hx⟩⟩
      case round =>
        obtain ⟨k, h, hk, rfl, hhl, HT, HK⟩ := hrel
        by_cases hlt3 : k < v
        · have hki : (k : Int) < (v : Int) := Int.ofNat_lt.2 hlt3
          obtain ⟨a1, a2, a3⟩ := HT.out.s1.at hlt3
          obtain ⟨X, hX⟩ : ∃ z, z = s.1.getD k 0 := ⟨_, rfl⟩
          rw [← hX] at a1
          have HXX : Hid (s.1[k]? = some X) := Lib.hid (by
            have h1 : k < s.1.length := by rw [HT.out.s1.len]; exact hlt3
            rw [hX, List.getElem?_eq_getElem h1]; simp [List.getD, List.getElem?_eq_getElem h1])
          clear hX
          by_cases hz : X = 0
          · have hq : (X == 0) = true := by simpa using hz
            have HC : Hid (readyV s.1 0 [] = readyV (s.1.drop (k + 1)) ((k : Int) + 1) (pushV h (k : Int))) := Lib.hid (by rw [HK.out.1, readyV_at HXX.out, if_pos hz])
            have HPU : Hid (Calls Try.prog 41 #[.iface 97 (.pointer (some ⟨L, 0, none⟩)), .iface 3 (.int .i64 (k : Int))] wr (RetN (TbO L) (fun w' => PLs w' w.heap.size L (pushV h (k : Int))) wr)) := Lib.hid (hpush_any HT.out.pl (k : Int) (by omega) HT.out.s1.ext.size)
            clear hz
            go_wp2_with (first | (go_at_call 41; refine HPU.out.mono ?_; rintro e1 w1 ⟨rfl, H1⟩) | fail)
            refine ⟨⟨k + 1, pushV h (k : Int), by omega, by go_num, by rw [pushV_len]; omega, Lib.hid (HT.out.heap H1.out.1 H1.out.2), Lib.hid ⟨HC.out, fun x hx => ?_⟩⟩, by simp [intOf]; omega⟩
            rcases pushV_mem hx with hx | rfl
            · exact HK.out.2 x hx
            · omega
          · have hq : (X == 0) = false := by simpa using hz
            have HC : Hid (readyV s.1 0 [] = readyV (s.1.drop (k + 1)) ((k : Int) + 1) h) := Lib.hid (by rw [HK.out.1, readyV_at HXX.out, if_neg hz])
            clear hz
            go_wp2
            exact ⟨⟨k + 1, h, by omega, by go_num, by omega, HT, Lib.hid ⟨HC.out, HK.out.2⟩⟩, by simp [intOf]; omega⟩
        · have hki : ¬ (k : Int) < (v : Int) := fun e => hlt3 (Int.ofNat_lt.1 e)
          obtain rfl : k = v := by omega
          have HRY : Hid (readyV s.1 0 [] = h) := Lib.hid (by rw [HK.out.1, List.drop_eq_nil_of_le (by rw [HT.out.s1.len]; exact Nat.le_refl _), readyV])
          obtain ⟨F0, hF0⟩ : ∃ z, z = k + E + 1 := ⟨_, rfl⟩
          have HSV : Hid (sortV on = goV F0 s.2 s.1 h []) := Lib.hid (by
            unfold sortV fuelS
            rw [← HR.out.2.1, ← HEE.out, ← hF0, HC.out.1, HRY.out])
          have HGB : Hid (GB k (k + E) 0 E s.1 h) := Lib.hid ⟨HT.out.s1.len, fun x hx => by have := HC.out.2.lo x hx; omega, by have := HC.out.2.sum; omega, HK.out.2⟩
          have HF0 := Lib.hid hF0
          clear hF0
          go_upto_region 24 with fail
          have hta := assertInt
          obtain ⟨W0s, hW0⟩ : ∃ z, z = s.1 := ⟨_, rfl⟩
          go_loopg [14] F0 (fun gk ovv wr => ∃ (f lo : Nat) (h W out : List Int), gk = f + 1 ∧ out.length + gk ≤ F0 ∧ Hid (S2 w A O L k W vs9 s.2 h ovv out wr) ∧ Hid (sortV on = goV gk s.2 W h out ∧ GB k f lo E W h ∧ lo + f * E ≤ (k + E) * E))
          case atStart => exact ⟨k + E, 0, h, s.1, [], HF0.out, by simp, Lib.hid HT.out, Lib.hid ⟨HSV.out, HGB.out, by omega⟩⟩
          case round =>
            obtain ⟨f, lo, h, W, out, rfl, hol, HT, HG⟩ := hrel
            obtain ⟨vL, hvL, hcL⟩ := HT.out.pl.len
            have HCL := Lib.hid hcL
            have hvl2 := HT.out.pl.lt
            obtain ⟨pa, pc, rfl⟩ := own_n HT.out.ou
            clear hcL
            by_cases hne : h = []
            · subst hne
              have HO : Hid (sortV on = out) := Lib.hid (by rw [HG.out.1, goV_nil])
              have HCL0 : Hid (Calls Try.prog 48 #[vL] wr (fun e w' => e = .returned (.int .i64 0) ∧ w' = wr)) := Lib.hid HCL.out
              obtain ⟨ol, hol2⟩ : ∃ z, z = out.length := ⟨_, rfl⟩
              rw [← hol2]
              have HOL := Lib.hid hol2
              clear HCL hol2
              have HFIN : Hid (∀ wz, Ext wr wz → SlC wz (.slice pa ol pc) ol (i64s out) ∧ Ext w wz) := Lib.hid (fun wz hx => ⟨by rw [HOL.out]; exact (SlC.of_owns HT.out.ou |>.ext hx) |> fun h => by rw [← HOL.out] at h ⊢; exact h, HT.out.s1.ext.trans hx⟩)
              by_cases hok : ol = k
              · have hq : ((ol : Int) == (k : Int)) = true := by simp; omega
                have HD : Hid (decide (out.length = k) = true) := Lib.hid (decide_eq_true (by rw [← HOL.out]; exact hok))
                clear hok
                go_wp2_with (first | (go_at_call 48; refine HCL0.out.mono ?_; rintro e1 w1 ⟨rfl, rfl⟩) | fail)
                try go_ret
                rw [HQ.out, HO.out]
                exact ⟨pa, pc, by rw [HD.out, HOL.out]; rfl, Lib.hid (by rw [← HOL.out]; exact HFIN.out _ (Ext.refl _))⟩
              · have hq : ((ol : Int) == (k : Int)) = false := by simp; omega
                have HD : Hid (decide (out.length = k) = false) := Lib.hid (decide_eq_false (by rw [← HOL.out]; exact hok))
                clear hok
                go_wp2_with (first | (go_at_call 48; refine HCL0.out.mono ?_; rintro e1 w1 ⟨rfl, rfl⟩) | fail)
                try go_ret
                rw [HQ.out, HO.out]
                exact ⟨pa, pc, by rw [HD.out, HOL.out]; rfl, Lib.hid (by rw [← HOL.out]; exact HFIN.out _ (Ext.refl _))⟩
            · have hpos : (0 : Int) < (h.length : Int) := by have := List.length_pos_iff.2 hne; omega
              obtain ⟨hn0, hhn⟩ : ∃ z, z = h.length := ⟨_, rfl⟩
              rw [← hhn] at HCL hpos
              have hphi := HG.out.2.1.phi
              obtain ⟨f, rfl⟩ : ∃ f', f = f' + 1 := ⟨f - 1, by omega⟩
              obtain ⟨hgp, hX0, hX1⟩ := HG.out.2.1.pop hne
              have hFb : f ≤ 2000000000 := by have := HF0.out; omega
              have HPO := Lib.hid (hpop_any HT.out.pl (by omega) (by have := HF0.out; omega))
              obtain ⟨q, hq⟩ : ∃ q : Nat, (popV h).1 = (q : Int) := ⟨(popV h).1.toNat, by omega⟩
              rw [hq] at HPO hX0 hX1
              have hqn : q < k := by omega
              have HGP := Lib.hid hgp
              have HGS : Hid (sortV on = goV (f + 1) s.2 (freeV (s.2.getD q []) (W, (popV h).2)).1 (freeV (s.2.getD q []) (W, (popV h).2)).2 (out ++ [(q : Int)])) := Lib.hid (by
                rw [HG.out.1, goV_step _ _ _ _ _ hne, hq, Int.toNat_natCast])
              have hLO : lo + E ≤ 2000000000000000000 ∧ lo + E + f * E ≤ (k + E) * E := by
                have h1 := HG.out.2.2
                rw [Nat.succ_mul] at h1
                have h2 : (k + E) * E ≤ 1001000000 * 1000000000 := Nat.mul_le_mul (by omega) (by omega)
                omega
              have HLO := Lib.hid hLO
              have hlo1 := hLO.1
              obtain ⟨ol, hol2⟩ : ∃ z, z = out.length := ⟨_, rfl⟩
              rw [← hol2] at hol ⊢
              have HOL := Lib.hid hol2
              obtain ⟨hq', hhq'⟩ : ∃ z, z = (popV h).2 := ⟨_, rfl⟩
              rw [← hhq'] at HPO HGP HGS
              have holb : ol ≤ 3000000000 := by have := HF0.out; omega
              have hOWN : Hid (wr.ownsRow w.heap.size 3 1 (.slice pa ol pc) ol (i64s out)) := Lib.hid (by rw [HOL.out]; exact HT.out.ou)
              clear hgp hX0 hX1 hq hne hLO hphi hhn hhq' hol2
              go_upto_region 25 with (first | (go_at_call 48; refine HCL.out.mono ?_; rintro e1 w1 ⟨rfl, rfl⟩) | fail)
              clear hvL
              go_upto_region 26 with (first | (go_at_call 43; refine HPO.out.mono ?_; rintro e2 w2 ⟨rfl, H2⟩) | fail)
              have hs2 := HT.out.heap H2.out.1 H2.out.2
              have HS2 := Lib.hid hs2
              have hou2 : w2.ownsRow w.heap.size 3 1 (.slice pa ol pc) ol (i64s out) := by
                have h1 := hs2.ou
                rw [← HOL.out] at h1
                exact h1
              have HOU2 := Lib.hid hou2
              have hws2 : w.heap.size ≤ w2.heap.size := hs2.s1.ext.size
              clear hs2 hou2
              go_upto_region 27 with (at_builtin; (refine wpList_append_slc _ rfl (.tmp 88) (.tmp 90) 36 rfl w.heap.size 3 (.int .i64 0) 1 8 Try.underlying36 infoInt rfl (by decide) (.slice pa ol pc) ol (i64s out) rfl (HOU2.out.alloc (.cells #[.int .i64 (q : Int)] 3)) _ 1 [.int .i64 (q : Int)] rfl (SlC.fresh _ #[.int .i64 (q : Int)] _ 1 _ (by simp) (by decide)) rfl (by simp [Value.oneCell']) (by unfold maxLen; omega) (by omega) (by simp; omega) ?_; intro v9 w3 hown9 hg9 hat9; obtain ⟨xc, zc, rfl⟩ := own_n hown9; have HC9 := Lib.hid (And.intro hown9 (And.intro hg9 hat9)); clear hown9 hg9 hat9))
              have hs3 : S2 w A O L k W vs9 s.2 hq' (.slice xc (ol + 1) zc) (out ++ [(q : Int)]) w3 := by
                have h1 := HS2.out.next ((Ext.refl w2).alloc (.cells #[.int .i64 (q : Int)] 3))
                rw [← HOL.out] at h1
                refine h1.push (Kb.grown HC9.out.2.1 (fun g hg => Option.mem_toList.2 hg)) ?_ (HC9.out.2.2.imp id (fun e => ⟨_, e, Nat.le_refl _⟩))
                rw [← HOL.out, show i64s (out ++ [(q : Int)]) = i64s out ++ [.int .i64 (q : Int)] by simp [i64s]]
                exact HC9.out.1
              have HS3 := Lib.hid hs3
              obtain ⟨vq, hvq⟩ : ∃ u, vs9[q]? = some u := ⟨_, List.getElem?_eq_getElem (by rw [hs3.rv.nv]; exact hqn)⟩
              obtain ⟨l, hl⟩ := hs3.rv.has hvq
              have hown := hs3.rv.row q vq l hvq hl
              obtain ⟨qa, qc, rfl⟩ := own_n hown
              have hqI : (q : Int) < (k : Int) := by omega
              have cO : w3.cell? ⟨O, q, none⟩ = some (.slice qa l.length qc) := by rw [hs3.rv.cell]; exact hvq
              have lO := hs3.rv.lt
              obtain ⟨m2, hm2⟩ : ∃ z, z = l.length := ⟨_, rfl⟩
              rw [← hm2] at cO
              have hqc : m2 ≤ qc ∧ (qc : Int) ≤ 9223372036854775807 := by
                obtain ⟨a', c', e, h1, h2, -⟩ := SlC.of_owns hown
                simp only [Value.slice.injEq] at e
                rw [e.2.2, hm2]
                unfold maxLen at h2
                exact ⟨h1, by omega⟩
              obtain ⟨hqc1, hqc2⟩ := hqc
              have hbeh := HC.out.2.beh l (List.mem_of_getElem? hl)
              have hm2E : m2 ≤ E := by rw [hm2]; exact hbeh.1
              have HLL := Lib.hid (And.intro hvq (And.intro hl (And.intro hm2 hbeh.2)))
              have HLG : Hid (s.2.getD q [] = l) := Lib.hid (by rw [List.getD, hl]; rfl)
              clear hs3 hvq hl hown hbeh hm2 hvl2
              go_upto_region 28 with fail
              clear cO lO
              go_loopw [97] (fun iv wr => ∃ (i : Nat) (W2 h2 : List Int), i ≤ m2 ∧ iv = .int .i64 (i : Int) ∧ Hid (S2 w A O L k W2 vs9 s.2 h2 (.slice xc (ol + 1) zc) (out ++ [(q : Int)]) wr) ∧ Hid (freeV l (W, hq') = freeV (l.drop i) (W2, h2) ∧ GB k f (lo + i) E W2 h2)) (fun iv _ => m2 - (intOf iv).toNat)
              case atStart => exact ⟨0, W, hq', Nat.zero_le _, rfl, HS3, Lib.hid ⟨rfl, HGP.out⟩⟩
              case round =>
                obtain ⟨i, W2, h2, hi, rfl, HU, HV⟩ := hrel
                by_cases hlt5 : i < m2
                · have hii : (i : Int) < (m2 : Int) := Int.ofNat_lt.2 hlt5
                  obtain ⟨x, hx⟩ : ∃ x, l[i]? = some x := ⟨_, List.getElem?_eq_getElem (by rw [← HLL.out.2.2.1]; exact hlt5)⟩
                  have hxb := HLL.out.2.2.2 x (List.mem_of_getElem? hx)
                  obtain ⟨u, hu⟩ : ∃ u : Nat, x = (u : Int) := ⟨x.toNat, by omega⟩
                  subst hu
                  have hun : u < k := by omega
                  have huI : (u : Int) < (k : Int) := by omega
                  have hcells := SlC.of_owns (HU.out.rv.row q _ l HLL.out.1 HLL.out.2.1)
                  obtain ⟨a', c', e, -, -, h3⟩ := hcells
                  simp only [Value.slice.injEq] at e
                  obtain ⟨b4, o4, e4, cx⟩ := h3 i (.int .i64 (u : Int)) (by simp [i64s, hx])
                  have hqa : qa = some ⟨b4, o4, none⟩ := by rw [e.1, e4]
                  have hiq : i < qc := by omega
                  have cxl := World.block_lt_of_cell? wr _ cx
                  obtain ⟨a1, a2, a3⟩ := HU.out.s1.at hun
                  obtain ⟨X, hX⟩ : ∃ z, z = W2.getD u 0 := ⟨_, rfl⟩
                  rw [← hX] at a1
                  have hXb := HV.out.2.lb X (by rw [hX]; exact getD_mem (by rw [HV.out.2.len]; exact hun))
                  have hXlo : -4000000000000000000 ≤ X := by omega
                  have hXhi : X ≤ 4000000000000000000 := by omega
                  have HX := Lib.hid (And.intro hx hX)
                  have HGF := Lib.hid (HV.out.2.free hun)
                  have hinc : Hid (incV W2 (u : Int) (-1) = W2.set u (X - 1)) := Lib.hid (by unfold incV; rw [Int.toNat_natCast, ← hX]; rfl)
                  clear hx hxb h3 e e4 hX hXb
                  subst hqa
                  go_upto_region 31 with fail
                  have hs4 := HU.out.setA hun (X - 1)
                  have HS4 := Lib.hid hs4
                  obtain ⟨Y, hY⟩ : ∃ z, z = X - 1 := ⟨_, rfl⟩
                  obtain ⟨a4, -, a5⟩ := hs4.s1.at hun
                  have hgy : (W2.set u (X - 1)).getD u 0 = Y := by
                    rw [List.getD, List.getElem?_set_self (by rw [HV.out.2.len]; exact hun), hY]; rfl
                  rw [hgy] at a4
                  clear a1 a2 a3 hs4
                  generalize wr.setCell ⟨A, u, none⟩ (.int .i64 (X - 1)) = w5 at HS4 a4 a5 ⊢
                  rw [← hY] at HS4
                  have HYY : Hid (incV W2 (u : Int) (-1) = W2.set u Y ∧ (incV W2 (u : Int) (-1)).getD u 0 = Y) := Lib.hid ⟨by rw [hinc.out, hY], by rw [hinc.out]; exact hgy⟩
                  clear hgy hY hXlo hXhi cx cxl
                  by_cases hz : Y = 0
                  · have hzq : (Y == 0) = true := by simpa using hz
                    have HE : Hid (freeV l (W, hq') = freeV (l.drop (i + 1)) (W2.set u Y, pushV h2 (u : Int)) ∧ GB k f (lo + i + 1) E (W2.set u Y) (pushV h2 (u : Int))) := Lib.hid (by
                      have h1 := HGF.out
                      rw [HYY.out.2, if_pos hz, HYY.out.1] at h1
                      refine ⟨?_, h1⟩
                      rw [HV.out.1, freeV_at HX.out.1]
                      simp only [Int.toNat_natCast]
                      rw [HYY.out.2, if_pos hz, HYY.out.1])
                    have HPU : Hid (Calls Try.prog 41 #[.iface 97 (.pointer (some ⟨L, 0, none⟩)), .iface 3 (.int .i64 (u : Int))] w5 (RetN (TbO L) (fun w' => PLs w' w.heap.size L (pushV h2 (u : Int))) w5)) := Lib.hid (hpush_any HS4.out.pl (u : Int) (by have := HV.out.2.phi; omega) HS4.out.s1.ext.size)
                    clear hz
                    go_wp2_with (first | (go_at_call 41; refine HPU.out.mono ?_; rintro e6 w6 ⟨rfl, H6⟩) | fail)
                    exact ⟨⟨i + 1, W2.set u Y, pushV h2 (u : Int), by omega, by go_num, Lib.hid (HS4.out.heap H6.out.1 H6.out.2), HE⟩, by simp [intOf]; omega⟩
                  · have hzq : (Y == 0) = false := by simpa using hz
                    have HE : Hid (freeV l (W, hq') = freeV (l.drop (i + 1)) (W2.set u Y, h2) ∧ GB k f (lo + i + 1) E (W2.set u Y) h2) := Lib.hid (by
                      have h1 := HGF.out
                      rw [HYY.out.2, if_neg hz, HYY.out.1] at h1
                      refine ⟨?_, h1⟩
                      rw [HV.out.1, freeV_at HX.out.1]
                      simp only [Int.toNat_natCast]
                      rw [HYY.out.2, if_neg hz, HYY.out.1])
                    clear hz
                    go_wp2
                    exact ⟨⟨i + 1, W2.set u Y, h2, by omega, by go_num, HS4, HE⟩, by simp [intOf]; omega⟩
                · have hii : ¬ (i : Int) < (m2 : Int) := fun e => hlt5 (Int.ofNat_lt.1 e)
                  obtain rfl : i = m2 := by omega
                  have HE : Hid (sortV on = goV (f + 1) s.2 W2 h2 (out ++ [(q : Int)])) := Lib.hid (by
                    have h1 := HV.out.1
                    rw [HLL.out.2.2.1, List.drop_length, freeV] at h1
                    rw [HGS.out, HLG.out, h1])
                  have HLO2 : Hid (lo + i + f * E ≤ (k + E) * E) := Lib.hid (by have := HLO.out.2; omega)
                  go_wp2
                  go_roundg (f + 1)
                  case measure => omega
                  case rel => exact ⟨f, lo + i, h2, W2, out ++ [(q : Int)], rfl, by rw [List.length_append, ← HOL.out]; simp; omega, HU, Lib.hid ⟨HE.out, HV.out.2, HLO2.out⟩⟩
end Go.Proofs.Ytmommjagndadjaa
namespace Go.Proofs.Ytmommjagndadjaa
open Go.RowKit
set_option linter.unusedSimpArgs false
set_option linter.unusedVariables false
set_option maxRecDepth 100000

theorem incV_len (l : List Int) (i d : Int) : (incV l i d).length = l.length := by unfold incV; simp
/-- All that stand behind one are below n. -/
def BehN (n : Int) (b : List (List Int)) : Prop := ∀ l ∈ b, ∀ y ∈ l, 0 ≤ y ∧ y < n
theorem BehN.getD {n : Int} {b : List (List Int)} (h : BehN n b) (i : Nat) : ∀ y ∈ b.getD i [], 0 ≤ y ∧ y < n := by
  rw [List.getD]
  cases hb : b[i]? with
  | none => intro y hy; simp at hy
  | some l => exact h l (List.mem_of_getElem? hb)
theorem stepW_all {n v : Int} (hv : 0 ≤ v ∧ v < n) : ∀ (l : List Int) (s : List Int × List (List Int)), BehN n s.2 → BehN n (l.foldl (stepW v) s).2 ∧ (l.foldl (stepW v) s).1.length = s.1.length
  | [], s, h => ⟨h, rfl⟩
  | w :: l, s, h => by
    have h1 : BehN n (stepW v s w).2 := by
      intro l1 hl1 y hy
      unfold stepW at hl1
      rcases List.mem_or_eq_of_mem_set hl1 with e | e
      · exact h l1 e y hy
      · subst e
        rcases List.mem_append.1 hy with e | e
        · exact h.getD _ y e
        · simp at e; subst e; exact hv
    have h2 := stepW_all hv l (stepW v s w) h1
    refine ⟨h2.1, ?_⟩
    rw [List.foldl_cons, h2.2]
    unfold stepW
    exact incV_len _ _ _
theorem waitsV_all {n : Int} : ∀ (on : List (List Int)) (v : Int) (s : List Int × List (List Int)), 0 ≤ v → v + on.length ≤ n → BehN n s.2 → BehN n (waitsV on v s).2 ∧ (waitsV on v s).1.length = s.1.length
  | [], v, s, _, _, h => ⟨h, rfl⟩
  | l :: on, v, s, h0, h1, h => by
    have hl : v + ((on.length : Int) + 1) ≤ n := by simpa using h1
    obtain ⟨a1, a2⟩ := stepW_all (n := n) (v := v) ⟨h0, by omega⟩ (onceV [] l) s h
    obtain ⟨b1, b2⟩ := waitsV_all on (v + 1) ((onceV [] l).foldl (stepW v) s) (by omega) (by omega) a1
    rw [waitsV]
    exact ⟨b1, b2.trans a2⟩
theorem readyV_all {n : Int} : ∀ (l : List Int) (v : Int) (h : List Int), 0 ≤ v → v + l.length ≤ n → (∀ x ∈ h, 0 ≤ x ∧ x < n) → ∀ x ∈ readyV l v h, 0 ≤ x ∧ x < n
  | [], v, h, _, _, hh => hh
  | w :: l, v, h, h0, h1, hh => by
    have hl : v + ((l.length : Int) + 1) ≤ n := by simpa using h1
    rw [readyV]
    refine readyV_all l (v + 1) _ (by omega) (by omega) (fun x hx => ?_)
    split at hx
    · rcases pushV_mem hx with e | e
      · exact hh x e
      · omega
    · exact hh x hx
theorem freeV_all {n : Int} : ∀ (l : List Int) (s : List Int × List Int), (∀ x ∈ l, 0 ≤ x ∧ x < n) → (∀ x ∈ s.2, 0 ≤ x ∧ x < n) → ∀ x ∈ (freeV l s).2, 0 ≤ x ∧ x < n
  | [], s, _, h => h
  | w :: l, s, hl, h => by
    rw [freeV]
    refine freeV_all l _ (fun x hx => hl x (List.mem_cons_of_mem _ hx)) (fun x hx => ?_)
    dsimp only at hx
    split at hx
    · rcases pushV_mem hx with e | e
      · exact h x e
      · rw [e]; exact hl w (by simp)
    · exact h x hx
theorem goV_all {n : Int} {b : List (List Int)} (hb : BehN n b) : ∀ (f : Nat) (W h out : List Int), (∀ x ∈ h, 0 ≤ x ∧ x < n) → (∀ x ∈ out, 0 ≤ x ∧ x < n) → ∀ x ∈ goV f b W h out, 0 ≤ x ∧ x < n
  | 0, _, _, _, _, ho => ho
  | f + 1, W, h, out, hh, ho => by
    by_cases hne : h = []
    · subst hne; rw [goV_nil]; exact ho
    · rw [goV_step f b W h out hne]
      obtain ⟨p1, p2⟩ := popV_mem hne
      refine goV_all hb f _ _ _ (freeV_all _ _ (hb.getD _) (fun x hx => hh x (p2 x hx))) (fun x hx => ?_)
      rcases List.mem_append.1 hx with e | e
      · exact ho x e
      · simp at e; rw [e]; exact hh _ p1
theorem sortV_in (on : List (List Int)) : ∀ x ∈ sortV on, 0 ≤ x ∧ x < (on.length : Int) := by
  unfold sortV
  obtain ⟨a1, a2⟩ := waitsV_all (n := (on.length : Int)) on 0 (List.replicate on.length 0, List.replicate on.length []) (by omega) (by omega) (fun l hl y hy => by
    have := List.eq_of_mem_replicate hl
    subst this
    simp at hy)
  refine goV_all a1 _ _ _ _ (readyV_all _ 0 [] (by omega) ?_ (fun x hx => by simp at hx)) (fun x hx => by simp at hx)
  rw [a2]; simp
end Go.Proofs.Ytmommjagndadjaa

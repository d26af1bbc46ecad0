/-
  Ticks, one behind the other: the walk of the machine's run.
  Conditions: the code is code, the rows lie in memory.
-/
import Derived.Test.YtipfcfaigbeakaaRunsB
namespace Go.Proofs.Ytipfcfaigbeakaa
open Go.RowKit
set_option linter.unusedSimpArgs false
set_option linter.unusedVariables false
set_option maxRecDepth 100000

/-- Ticks, one behind the other: why they end, and what they tell. -/
def goV (c : CodeV) : List Int → List (List Int) → List (List Int) → Int × List (List Int)
  | _, os, [] => (0, os)
  | cs, os, r :: rs => if (tickV c cs r).err = 0 then goV c (tickV c cs r).cells (os ++ [(tickV c cs r).outs]) rs else ((tickV c cs r).err, [])
theorem goV_step {c : CodeV} {cs : List Int} {os rs : List (List Int)} {j : Nat} {r : List Int} (hr : rs[j]? = some r) (h : (tickV c cs r).err = 0) : goV c cs os (rs.drop j) = goV c (tickV c cs r).cells (os ++ [(tickV c cs r).outs]) (rs.drop (j + 1)) := by
  obtain ⟨hl, e⟩ := List.getElem?_eq_some_iff.1 hr
  rw [List.drop_eq_getElem_cons hl, e, goV, if_pos h]
theorem goV_stop {c : CodeV} {cs : List Int} {os rs : List (List Int)} {j : Nat} {r : List Int} (hr : rs[j]? = some r) (h : (tickV c cs r).err ≠ 0) : goV c cs os (rs.drop j) = ((tickV c cs r).err, []) := by
  obtain ⟨hl, e⟩ := List.getElem?_eq_some_iff.1 hr
  rw [List.drop_eq_getElem_cons hl, e, goV, if_neg h]
/-- Rows that are told: the blocks of Sr are none of the rows', those of St not their list's. -/
structure OutsA (W : World) (ov : Value) (vs : List Value) (os : List (List Int)) (Sr St : List Nat) (w : World) : Prop where
  ext : Ext W w
  top : w.ownsRow W.heap.size 22 1 ov vs.length vs
  len : vs.length = os.length
  row : ∀ (j : Nat) (x : Value) (r : List Int), vs[j]? = some x → os[j]? = some r → w.ownsRow W.heap.size 3 1 x r.length (i64s r) ∧ ∀ b, x.ownBlock = some b → b ∉ Sr ∧ ov.ownBlock ≠ some b
  off : ∀ b, ov.ownBlock = some b → b ∉ St
section
variable {W w w' w2 : World} {ov ov2 x : Value} {vs : List Value} {os : List (List Int)} {Sr St Sr' St' T : List Nat} {r : List Int}
theorem OutsA.rows (h : OutsA W ov vs os Sr St w) : RowsIn w ov vs os :=
  ⟨by rw [← h.len]; exact SlC.of_owns h.top, h.len, fun j x r h1 h2 => SlC.of_owns (h.row j x r h1 h2).1⟩
theorem OutsA.tick (h : OutsA W ov vs os Sr St w) (hk : Kb T w w') (hT : ∀ k ∈ T, k ∈ Sr ∧ k ∈ St ∧ W.heap.size ≤ k) (h1 : ∀ k ∈ Sr', k ∈ Sr ∨ w.heap.size ≤ k) (h2 : ∀ k ∈ St', k ∈ St ∨ w.heap.size ≤ k) : OutsA W ov vs os Sr' St' w' := by
  refine ⟨hk.ext h.ext (fun k hk1 => (hT k hk1).2.2), hk.row h.top (fun g hg e => h.off g e (hT g hg).2.1), h.len, fun j x r e1 e2 => ?_, fun b hb hs => ?_⟩
  · obtain ⟨a1, a2⟩ := h.row j x r e1 e2
    refine ⟨hk.row a1 (fun g hg e => (a2 g e).1 (hT g hg).1), fun b hb => ⟨fun hs => ?_, (a2 b hb).2⟩⟩
    rcases h1 b hs with e | e
    · exact (a2 b hb).1 e
    · have := (a1.lt b hb).2; omega
  · rcases h2 b hs with e | e
    · exact h.off b hb e
    · have := (h.top.lt b hb).2; omega
theorem OutsA.push (h : OutsA W ov vs os Sr St w) {B : Nat} (hx : w.ownsRow B 3 1 x r.length (i64s r)) (hB : W.heap.size ≤ B) (hoff : ∀ b, x.ownBlock = some b → b ∉ Sr ∧ ov.ownBlock ≠ some b) (hSr : ∀ k ∈ Sr, k < w.heap.size) (hSt : ∀ k ∈ St, k < w.heap.size) {o : Obj}
    (hg : (w.alloc o).grownBy w2 ov.ownBlock) (hown : w2.ownsRow W.heap.size 22 1 ov2 (vs.length + 1) (vs ++ [x])) (hat : ov2.ownBlock = ov.ownBlock ∨ ov2.ownBlock = some (w.alloc o).heap.size) : OutsA W ov2 (vs ++ [x]) (os ++ [r]) Sr St w2 ∧ Kb ov.ownBlock.toList w w2 := by
  have hk : Kb ov.ownBlock.toList w w2 := (Kb.of_ext ((Ext.refl w).alloc o)).trans (Kb.grown hg (fun g hg => Option.mem_toList.2 hg))
  have hnew : ∀ b, ov2.ownBlock = some b → ov.ownBlock = some b ∨ w.heap.size < b := fun b hb => by
    rcases hat with e | e
    · rw [e] at hb; exact .inl hb
    · rw [e] at hb; simp at hb; exact .inr (by omega)
  have hrow : ∀ {y : Value} {l : List Int}, w.ownsRow W.heap.size 3 1 y l.length (i64s l) → (∀ b, y.ownBlock = some b → b ∉ Sr ∧ ov.ownBlock ≠ some b) → w2.ownsRow W.heap.size 3 1 y l.length (i64s l) ∧ ∀ b, y.ownBlock = some b → b ∉ Sr ∧ ov2.ownBlock ≠ some b := fun {y l} a1 a2 => by
    refine ⟨hk.row a1 (fun g hg e => (a2 g e).2 (Option.mem_toList.1 hg)), fun b hb => ⟨(a2 b hb).1, fun e => ?_⟩⟩
    rcases hnew b e with e | e
    · exact (a2 b hb).2 e
    · have := (a1.lt b hb).2; omega
  refine ⟨⟨hk.ext h.ext (fun k hk1 => (h.top.lt k (Option.mem_toList.1 hk1)).1), by simpa using hown, by simp [h.len], fun j y l e1 e2 => ?_, fun b hb hs => ?_⟩, hk⟩
  · by_cases hj : j < vs.length
    · rw [List.getElem?_append_left hj] at e1
      rw [List.getElem?_append_left (by rw [← h.len]; exact hj)] at e2
      obtain ⟨a1, a2⟩ := h.row j y l e1 e2
      exact hrow a1 a2
    · have hjl : j = vs.length := by
        have := (List.getElem?_eq_some_iff.1 e1).1
        simp at this
        omega
      subst hjl
      rw [List.getElem?_append_right (Nat.le_refl _), Nat.sub_self] at e1
      rw [h.len, List.getElem?_append_right (Nat.le_refl _), Nat.sub_self] at e2
      simp only [List.getElem?_cons_zero, Option.some.injEq] at e1 e2
      subst e1
      subst e2
      exact hrow (ownsRow_base hx hB) hoff
  · rcases hnew b hb with e | e
    · exact h.off b e hs
    · have := hSt b hs; omega
/-- What the machine's run keeps. -/
structure TickL (W : World) (c : CodeV) (g B : Nat) (cs : List Int) (vs : List Value) (os : List (List Int)) (S : List Nat) (ov : Value) (w : World) : Prop where
  m : MI g B c cs S w
  outs : OutsA W ov vs os S S w
variable {c : CodeV} {g B : Nat} {cs ins : List Int} {S : List Nat} {insv : Value}
def TickLP (W : World) (c : CodeV) (g B : Nat) (R : TickV) (vs : List Value) (os : List (List Int)) (ov : Value) (e : Ending) (w' : World) : Prop :=
  ∃ (v : Value) (S' : List Nat), e = .returned (.tuple #[v, .int .i64 R.n, .int .i64 R.err]) ∧ Hid (TickL W c g B R.cells vs os S' ov w' ∧ w'.ownsRow W.heap.size 3 1 v R.outs.length (i64s R.outs) ∧ (∀ b, v.ownBlock = some b → b ∉ S' ∧ ov.ownBlock ≠ some b))
theorem TickL.tick (hg : GoodC c) (h : TickL W c g B cs vs os S ov w) (hB : W.heap.size ≤ B) (hins : SlC W insv ins.length (i64s ins)) (hI : ∀ x ∈ ins, I64 x) :
    Calls Try.prog 30 #[.pointer (some ⟨g, 0, none⟩), insv] w (TickLP W c g B (tickV c cs ins) vs os ov) := by
  refine (mtick hg h.m (hins.ext h.outs.ext) hI (fun hne k hk e => by
    have := hins.lt (by simpa using hne) k e
    have := (h.m.lt k hk).1
    omega)).mono ?_
  rintro e w5 ⟨v, S', base, rfl, hm, hk, hS', hb, hown, hv⟩
  refine ⟨v, S', rfl, Lib.hid ⟨⟨hm, h.outs.tick hk (fun k hk1 => ⟨hk1, hk1, Nat.le_trans hB (h.m.lt k hk1).1⟩) hS' hS'⟩, ownsRow_base hown (Nat.le_trans h.outs.ext.size hb), fun b hb1 => ⟨hv b hb1, fun e => ?_⟩⟩⟩
  have := (hown.lt b hb1).1
  have := (h.outs.top.lt b e).2
  omega
theorem TickL.push (h : TickL W c g B cs vs os S ov w) (hx : w.ownsRow W.heap.size 3 1 x r.length (i64s r)) (hoff : ∀ b, x.ownBlock = some b → b ∉ S ∧ ov.ownBlock ≠ some b) {o : Obj}
    (hg : (w.alloc o).grownBy w2 ov.ownBlock) (hown : w2.ownsRow W.heap.size 22 1 ov2 (vs.length + 1) (vs ++ [x])) (hat : ov2.ownBlock = ov.ownBlock ∨ ov2.ownBlock = some (w.alloc o).heap.size) : TickL W c g B cs (vs ++ [x]) (os ++ [r]) S ov2 w2 := by
  obtain ⟨ho, hk⟩ := h.outs.push hx (Nat.le_refl _) hoff (fun k hk => (h.m.lt k hk).2) (fun k hk => (h.m.lt k hk).2) hg hown hat
  exact ⟨h.m.kb hk (fun k hk1 hk2 => h.outs.off k (Option.mem_toList.1 hk2) hk1), ho⟩
end
/-- What a run leaves. -/
def RunP (W : World) (G : Int × List (List Int)) (e : Ending) (w' : World) : Prop := ∃ (v : Value) (vs : List Value), e = .returned (.tuple #[v, .int .i64 G.1]) ∧ RowsIn w' v vs G.2 ∧ Ext W w'
theorem RowsIn.nil (w : World) : RowsIn w (.slice none 0 0) [] [] := ⟨⟨none, 0, rfl, Nat.le_refl _, Nat.zero_le _, fun j u hu => by simp at hu⟩, rfl, fun j x r h => by simp at h⟩
theorem RunP.no {W w : World} {G : Int × List (List Int)} {er : Int} (hx : Ext W w) (h : G = (er, [])) : RunP W G (.returned (.tuple #[.slice none 0 0, .int .i64 er])) w := by
  subst h; exact ⟨_, [], rfl, RowsIn.nil w, hx⟩
theorem RunP.yes {W w : World} {G : Int × List (List Int)} {os : List (List Int)} {v : Value} {vs : List Value} (h : G = (0, os)) (hr : RowsIn w v vs os) (hx : Ext W w) : RunP W G (.returned (.tuple #[v, .int .i64 0])) w := by
  subst h; exact ⟨_, vs, rfl, hr, hx⟩
set_option maxHeartbeats 4000000 in
theorem ticks_any {W0 W : World} {c : CodeV} {g B : Nat} {cs0 : List Int} {S0 : List Nat} {v : Value} {vs : List Value} {rs : List (List Int)} (hg : GoodC c) (hm : MI g B c cs0 S0 W) (hB : W0.heap.size ≤ B) (hx0 : Ext W0 W) (hr : RowsIn W0 v vs rs) (hI : ∀ r ∈ rs, ∀ n ∈ r, I64 n) (hn : rs.length ≤ 1000) :
    Calls Try.prog 63 #[.func (.func 30) #[.pointer (some ⟨g, 0, none⟩)] #[], v] W (RunP W0 (goV c cs0 [] rs)) := by
  obtain ⟨G, hG⟩ : ∃ G, G = goV c cs0 [] rs := ⟨_, rfl⟩
  rw [← hG]
  obtain ⟨Q, hQ⟩ : ∃ Q, Q = RunP W0 G := ⟨_, rfl⟩
  rw [← hQ]
  have HQ := Lib.hid hQ
  have HL0 : Hid (TickL W0 c g B cs0 [] [] S0 (.slice none 0 0) W) := Lib.hid ⟨hm, ⟨hx0, own_nil _ _ _ _, rfl, fun j x r h1 => by simp at h1, fun b hb => by simp [Value.ownBlock] at hb⟩⟩
  have HG0 : Hid (goV c cs0 [] (rs.drop 0) = G) := Lib.hid (by rw [List.drop_zero]; exact hG.symm)
  have HR := Lib.hid hr
  obtain ⟨a, cap, rfl, h1, h2, htc⟩ := id hr.top
  have HT := Lib.hid htc
  obtain ⟨n, hnn⟩ : ∃ n, n = rs.length := ⟨_, rfl⟩
  rw [← hnn] at hn ⊢
  have HY := Lib.hid (And.intro hg (And.intro hI (And.intro hB hnn)))
  clear hG hQ hm hx0 hr htc h1 h2 hnn hg hI hB
  go_enter Try.func63, Try.ntmps63
  go_wp2
  go_loopw [6, 14] (fun o i wr => ∃ (j : Nat) (us : List Value) (os : List (List Int)) (cs : List Int) (S : List Nat), j ≤ n ∧ i = .int .i64 j ∧ Hid (TickL W0 c g B cs us os S o wr) ∧ Hid (goV c cs os (rs.drop j) = G) ∧ us.length = j ∧ ∃ x y z, o = .slice x y z) (fun _ i _ => n - (intOf i).toNat)
  case atStart => exact ⟨0, [], [], _, _, Nat.zero_le _, rfl, HL0, HG0, rfl, _, _, _, rfl⟩
  case round =>
    obtain ⟨j, us, os, cs, S, hj, rfl, HL, HG, hul, oa, ol, oc, rfl⟩ := hrel
    clear HL0 HG0
    by_cases hlt : j < n
    · obtain ⟨x, r, hx, hr, hs⟩ := HR.out.at (j := j) (by have := HY.out.2.2.2; omega)
      obtain ⟨b, o, rfl, f0⟩ := HT.out j x hx
      have f1 := HL.out.outs.ext.cell f0
      have HTK := Lib.hid (HL.out.tick HY.out.1 HY.out.2.2.1 hs (HY.out.2.1 r (List.mem_of_getElem? hr)))
      have hji : (j : Int) < (n : Int) := Int.ofNat_lt.2 hlt
      obtain ⟨a', cap', rfl, -⟩ := hs
      obtain ⟨R, hR⟩ : ∃ R, R = tickV c cs r := ⟨_, rfl⟩
      rw [← hR] at HTK
      have HRV := Lib.hid hR
      have HRJ := Lib.hid hr
      clear hx hr hR f0 HL
      go_upto_region 6 with (go_at_call 30; refine HTK.out.mono ?_; rintro e w5 ⟨v5, S5, rfl, HT5⟩)
      obtain ⟨er, her⟩ : ∃ er, er = R.err := ⟨_, rfl⟩
      rw [← her]
      have HER := Lib.hid her
      obtain ⟨vn, hvn⟩ : ∃ k, k = (R.n : Int) := ⟨_, rfl⟩
      obtain ⟨va, vc, rfl⟩ := own_n HT5.out.2.1
      have HTOP := Lib.hid HT5.out.1.outs.top
      have hos := HT5.out.1.outs.ext.size
      clear her hvn f1 HTK
      by_cases h0 : er = 0
      · subst h0
        have HG2 : Hid (goV c R.cells (os ++ [R.outs]) (rs.drop (j + 1)) = G) := Lib.hid (by rw [← HG.out, HRV.out]; exact (goV_step HRJ.out (by rw [← HRV.out]; exact HER.out.symm)).symm)
        go_wp2_with (at_builtin; (refine wpList_append_slc _ rfl (.tmp 28) (.tmp 30) 51 rfl W0.heap.size 22 (.slice none 0 0) 1 24 Try.underlying51 infoInts rfl (by decide) (.slice oa ol oc) us.length us rfl (ownsRow_ext HTOP.out (by repeat first | exact Ext.refl _ | assumption | refine Ext.drew ?_ | refine Ext.drewN ?_ _ | refine Ext.extBy ?_ _ | refine Ext.alloc ?_ _ | refine Ext.setCell ?_ (by simp; try omega) _ | (refine Ext.trans ?_ (by assumption)))) _ 1 [.slice va R.outs.length vc] rfl (SlC.fresh _ #[.slice va R.outs.length vc] _ 1 _ (by simp) (by decide)) rfl (by simp [Value.oneCell']) (by unfold maxLen; omega) (by omega) (by simp; omega) ?_; intro v3 w3 hown3 hg3 hat3; have HP := Lib.hid (HT5.out.1.push HT5.out.2.1 HT5.out.2.2 hg3 hown3 hat3); have HS3 := Lib.hid (own_slice3 hown3); clear hown3 hg3 hat3))
        go_roundw
        case rel => exact ⟨j + 1, _, _, _, _, by omega, by go_num, HP, HG2, by simp [hul], HS3.out⟩
        case measure => simp [intOf]; omega
      · have he : (er != 0) = true := by simpa using h0
        have HG2 : Hid (G = (er, [])) := Lib.hid (by rw [← HG.out, goV_stop HRJ.out (by rw [← HRV.out, ← HER.out]; exact h0), ← HRV.out, ← HER.out])
        have hxe := HT5.out.1.outs.ext
        clear h0
        go_wp2
        (try go_ret2)
        rw [HQ.out]
        exact RunP.no hxe HG2.out
    · have hji : ¬ (j : Int) < (n : Int) := fun e => hlt (Int.ofNat_lt.1 e)
      have HG2 : Hid (G = (0, os)) := Lib.hid (by rw [← HG.out, List.drop_of_length_le (by have := HY.out.2.2.2; omega), goV])
      have HRI := Lib.hid HL.out.outs.rows
      have hxe := HL.out.outs.ext
      clear HL
      go_wp2
      (try go_ret2)
      rw [HQ.out]
      exact RunP.yes HG2.out HRI.out hxe
end Go.Proofs.Ytipfcfaigbeakaa

/-
  The walks of the document's own checker: what an instruction does to the kinds on the stack (1, 2).
  Conditions: the stack is no higher than 64.
-/
import Derived.Test.YtipfcfaigbeakaaMCodeRefA
import Derived.Test.YtipfcfaigbeakaaMRefWalkG
namespace Go.Proofs.Ytipfcfaigbeakaa
open Go.RowKit
set_option maxRecDepth 100000

/-- What a step of the document's checker leaves. -/
def StepR (A I : Nat) (w : World) (r : Option (List Int)) (e : Ending) (w' : World) : Prop :=
  Ext w w' ∧ ∃ u b, e = .returned (.tuple #[u, .bool b]) ∧ b = r.isSome ∧ (∃ a n c, u = .slice a n c) ∧ ∀ m, r = some m → Stk .i64 A I w' u m
theorem StepR.no {A I : Nat} {w w' : World} {r : Option (List Int)} (hx : Ext w w') (hr : r = none) : StepR A I w r (.returned (.tuple #[.slice none 0 0, .bool false])) w' :=
  ⟨hx, _, _, rfl, by rw [hr]; rfl, ⟨_, _, _, rfl⟩, fun m hm => by rw [hr] at hm; cases hm⟩
theorem StepR.yes {A I : Nat} {w w' : World} {r : Option (List Int)} {m : List Int} {u : Value} {b : Bool} (hx : Ext w w') (hb : b = r.isSome) (hr : ∀ m', r = some m' → m' = m) (hs : ∃ a n c, u = .slice a n c) (hu : ∀ m', r = some m' → Stk .i64 A I w' u m) : StepR A I w r (.returned (.tuple #[u, .bool b])) w' :=
  ⟨hx, _, _, rfl, hb, hs, fun m' hm => by rw [hr m' hm]; exact hu m' hm⟩
/-- An owned row that lies above the checker's rows. -/
theorem Stk.own {A I base n : Nat} {w : World} {e : TypeId} {u : Value} {l : List Int} {cs : List Value} (h : w.ownsRow base e 1 u n cs) (hn : n = l.length) (hc : cs = i64s l) (hl : ∀ x ∈ l, 0 ≤ x ∧ x < 256) (hA : A < base) (hI : I < base) : Stk .i64 A I w u l := by
  subst hn hc
  refine ⟨SlC.of_owns h, hl, fun b o s k cap e => ?_⟩
  rcases h.2 with ⟨rfl, _⟩ | ⟨g, cap', cur, rfl, hb, _⟩
  · simp at e
  · simp only [Value.slice.injEq, Option.some.injEq, Addr.mk.injEq] at e
    omega
theorem own_slice {w : World} {base n : Nat} {e : TypeId} {u : Value} {cs : List Value} (h : w.ownsRow base e 1 u n cs) : ∃ a n c, u = .slice a n c := by
  rcases h.2 with ⟨rfl, _⟩ | ⟨g, cap', cur, rfl, hb, _⟩
  · exact ⟨_, _, _, rfl⟩
  · exact ⟨_, _, _, rfl⟩
theorem snoc_bd {l : List Int} {k : Int} (hl : ∀ x ∈ l, 0 ≤ x ∧ x < 256) (hk : 0 ≤ k ∧ k < 256) : ∀ x ∈ l ++ [k], 0 ≤ x ∧ x < 256 := by
  intro x hx
  rcases List.mem_append.1 hx with hx | hx
  · exact hl x hx
  · rw [List.mem_singleton.1 hx]; exact hk
theorem one_i64s (l : List Int) : ∀ u ∈ i64s l, u.oneCell' = true := by
  intro u hu
  obtain ⟨x, _, rfl⟩ := List.mem_map.1 hu
  rfl

abbrev rbox (w : World) (c : CodeV) (kv iv bv : Value) (op n k : Int) : World := (w.alloc (.cells #[kv, .int .i64 c.ins, .int .i64 c.outs, .int .i64 c.cells, .int .i64 c.stack, iv, bv] 25)).alloc (.cells #[.int .i64 op, .int .i64 n, .int .i64 k] 33)
theorem fresh_drew (w : World) (arr : Array Value) (e : TypeId) (n nb : Nat) (hn : nb = w.heap.size) (hm : n ≤ maxLen) : SlC (w.alloc (.cells arr e)).drew (.slice (some ⟨nb, 0, none⟩) n n) n arr.toList := (SlC.fresh w arr e n nb hn hm).ext (Ext.refl _).drew

set_option maxHeartbeats 2000000 in
theorem refStep_push (A I : Nat) (c : CodeV) (kv iv bv v : Value) (n k : Int) (l : List Int) (w : World) (hA : A < w.heap.size) (hI : I < w.heap.size) (hv : Stk .i64 A I w v l) (hl : l.length ≤ 64) :
    Calls Try.prog 46 #[codeA c kv iv bv, .agg #[.int .i64 1, .int .i64 n, .int .i64 k], v] w (StepR A I w (if isk k n = true then some (l ++ [k]) else none)) := by
  obtain ⟨a, cap, rfl, hnc, hcm, _⟩ := id hv.1
  have hs0 := Lib.hid hv.1
  have hlb := Lib.hid hv.2.1
  have hwn := nat64 hnc hcm
  have HSB : Hid (∀ w', Ext (rbox w c kv iv bv 1 n k) w' → w'.cell? ⟨w.heap.size + 1, 2, none⟩ = some (.int .i64 k)) := Lib.hid fun w' hx => hx.cell (by go_simp)
  obtain ⟨r, hr⟩ : ∃ r, r = (if isk k n = true then some (l ++ [k]) else none) := ⟨_, rfl⟩
  rw [← hr]
  have HR := Lib.hid hr
  clear hr hv
  simp only [codeA]
  go_enter Try.func46, Try.ntmps46
  go_wp2_with (first | (go_at_call 45; refine (refIs_any _ _ _).mono ?_; rintro e w1 ⟨rfl, rfl⟩))
  go_region_held3 (fun w' => w'.cell? ⟨w.heap.size + 1, 2, none⟩ = some (.int .i64 k))
    (first | exact HSB.out _ (by repeat first | exact Ext.refl _ | assumption | refine Ext.drew ?_ | refine Ext.drewN ?_ _ | refine Ext.extBy ?_ _ | refine Ext.alloc ?_ _ | refine Ext.setCell ?_ (by simp; try omega) _ | (refine Ext.trans ?_ (by assumption))))
    (first
      | (refine step_append_slc _ rfl (.const (.slice none 0 0)) (.tmp 27) 22 rfl (w.heap.size + 2) 3 (.int .i64 0) 1 8 Try.underlying22 infoInt rfl (by decide) (.slice none 0 0) 0 [] rfl (own_nil _ _ _ _) _ l.length (i64s l) rfl (hs0.out.ext (by repeat first | exact Ext.refl _ | assumption | refine Ext.drew ?_ | refine Ext.drewN ?_ _ | refine Ext.extBy ?_ _ | refine Ext.alloc ?_ _ | refine Ext.setCell ?_ (by simp; try omega) _ | (refine Ext.trans ?_ (by assumption)))) (by simp) (one_i64s l) (by unfold maxLen; omega) (by omega) (by simp) ?_; intro v1 w1 hown1 hg1 hat1; have hE1 := ext_grown_nil hg1)
      | (refine step_append_slc _ rfl (.tmp 28) (.tmp 31) 22 rfl (w.heap.size + 2) 3 (.int .i64 0) 1 8 Try.underlying22 infoInt rfl (by decide) v1 (0 + l.length) ([] ++ i64s l) rfl (by first | exact hown1 | exact hown1.alloc _) _ 1 [.int .i64 k] rfl (by first | exact SlC.fresh _ #[.int .i64 k] _ 1 _ (by simp) (by decide) | exact (fresh_drew _ #[.int .i64 k] _ 1 _ (by simp) (by decide)).ext hE1 | exact (SlC.fresh _ #[.int .i64 k] _ 1 _ (by simp) (by decide)).ext hE1) (by simp) (by simp [Value.oneCell']) (by unfold maxLen; omega) (by omega) (by have := hE1.size; simp at this ⊢; omega) ?_; intro v2 w2 hown2 hg2 hat2; have hE2 : Ext (rbox w c kv iv bv 1 n k) w2 := below_grown (base := w.heap.size + 2) (show Below (rbox w c kv iv bv 1 n k).heap.size (rbox w c kv iv bv 1 n k) _ from (by repeat first | exact Ext.refl _ | assumption | refine Ext.drew ?_ | refine Ext.drewN ?_ _ | refine Ext.extBy ?_ _ | refine Ext.alloc ?_ _ | refine Ext.setCell ?_ (by simp; try omega) _ | (refine Ext.trans ?_ (by assumption)))) (by simp) (by have := hE1.size; simp at this ⊢; omega) (by first | exact hown1 | exact hown1.alloc _) hg2))
  all_goals
    go_wp2
    go_ret2
    refine StepR.yes (m := l ++ [k]) ((show Ext w (rbox w c kv iv bv 1 n k) from ((Ext.refl _).alloc _).alloc _).trans hE2) (by rw [HR.out]; cases isk k n <;> rfl) (fun m' hm => by rw [HR.out] at hm; split at hm <;> simp_all) (own_slice hown2) (fun m' hm => ?_)
    rw [HR.out] at hm
    split at hm
    · rename_i hk
      have := isk_bd hk
      exact Stk.own hown2 (by simp) (by simp) (snoc_bd hlb.out (by omega)) (by omega) (by omega)
    · cases hm

set_option maxHeartbeats 2000000 in
theorem refStep_load (A I : Nat) (c : CodeV) (kv iv bv v : Value) (n k kk : Int) (l : List Int) (w : World) (hA : A < w.heap.size) (hI : I < w.heap.size) (hv : Stk .i64 A I w v l) (hl : l.length ≤ 64) (hkv : SlC w kv c.kinds.length (i64s c.kinds)) (h1 : k = 0) (h2 : 0 ≤ n) (hkk : c.kinds[n.toNat]? = some kk) (hkb : 0 ≤ kk ∧ kk < 256) :
    Calls Try.prog 46 #[codeA c kv iv bv, .agg #[.int .i64 2, .int .i64 n, .int .i64 k], v] w (StepR A I w (some (l ++ [kk]))) := by
  subst h1
  have h4 : n.toNat < c.kinds.length := (List.getElem?_eq_some_iff.1 hkk).1
  have h3 : n < (c.kinds.length : Int) := by clear hkv hv; omega
  have hd2 : decide (n < 0) = false := decide_eq_false (by clear hkv hv; omega)
  have hd3 : decide ((c.kinds.length : Int) ≤ n) = false := decide_eq_false (by clear hkv hv; omega)
  obtain ⟨a, cap, rfl, hnc, hcm, _⟩ := id hv.1
  obtain ⟨ak, ck, rfl, hk1, hk2, hkc⟩ := hkv
  obtain ⟨b, o, rfl, hcell⟩ := hkc n.toNat (.int .i64 kk) (by simp [hkk])
  have hbz : b < w.heap.size := World.block_lt_of_cell? w _ hcell
  have hs0 := Lib.hid hv.1
  have hlb := Lib.hid hv.2.1
  have hwn := nat64 hnc hcm
  have hln := nat64 hk1 hk2
  clear hnc hcm hk1 hk2 h4
  have HSB : Hid (∀ w', Ext (rbox w c (.slice (some ⟨b, o, none⟩) c.kinds.length ck) iv bv 2 n 0) w' → w'.cell? ⟨w.heap.size + 1, 1, none⟩ = some (.int .i64 n) ∧ w'.cell? ⟨w.heap.size, 0, none⟩ = some (.slice (some ⟨b, o, none⟩) c.kinds.length ck) ∧ w'.cell? ⟨b, o + n.toNat, none⟩ = some (.int .i64 kk)) := Lib.hid fun w' hx => ⟨hx.cell (by go_simp), hx.cell (by go_simp), hx.cell ((((Ext.refl w).alloc _).alloc _).cell hcell)⟩
  clear hv hkc hkk
  simp only [codeA]
  go_enter Try.func46, Try.ntmps46
  go_wp2
  go_region_held3 (fun w' => w'.cell? ⟨w.heap.size + 1, 1, none⟩ = some (.int .i64 n) ∧ w'.cell? ⟨w.heap.size, 0, none⟩ = some (.slice (some ⟨b, o, none⟩) c.kinds.length ck) ∧ w'.cell? ⟨b, o + n.toNat, none⟩ = some (.int .i64 kk))
    (first | exact HSB.out _ (by repeat first | exact Ext.refl _ | assumption | refine Ext.drew ?_ | refine Ext.drewN ?_ _ | refine Ext.extBy ?_ _ | refine Ext.alloc ?_ _ | refine Ext.setCell ?_ (by simp; try omega) _ | (refine Ext.trans ?_ (by assumption))))
    (first
      | (refine step_append_slc _ rfl (.const (.slice none 0 0)) (.tmp 52) 22 rfl (w.heap.size + 2) 3 (.int .i64 0) 1 8 Try.underlying22 infoInt rfl (by decide) (.slice none 0 0) 0 [] rfl (own_nil _ _ _ _) _ l.length (i64s l) rfl (hs0.out.ext (by repeat first | exact Ext.refl _ | assumption | refine Ext.drew ?_ | refine Ext.drewN ?_ _ | refine Ext.extBy ?_ _ | refine Ext.alloc ?_ _ | refine Ext.setCell ?_ (by simp; try omega) _ | (refine Ext.trans ?_ (by assumption)))) (by simp) (one_i64s l) (by unfold maxLen; omega) (by omega) (by simp) ?_; intro v1 w1 hown1 hg1 hat1; have hE1 := ext_grown_nil hg1)
      | (refine step_append_slc _ rfl (.tmp 53) (.tmp 60) 22 rfl (w.heap.size + 2) 3 (.int .i64 0) 1 8 Try.underlying22 infoInt rfl (by decide) v1 (0 + l.length) ([] ++ i64s l) rfl (by first | exact hown1 | exact hown1.alloc _) _ 1 [.int .i64 kk] rfl (by first | exact SlC.fresh _ #[.int .i64 kk] _ 1 _ (by simp) (by decide) | exact (fresh_drew _ #[.int .i64 kk] _ 1 _ (by simp) (by decide)).ext hE1 | exact (SlC.fresh _ #[.int .i64 kk] _ 1 _ (by simp) (by decide)).ext hE1) (by simp) (by simp [Value.oneCell']) (by unfold maxLen; omega) (by omega) (by have := hE1.size; simp at this ⊢; omega) ?_; intro v2 w2 hown2 hg2 hat2; have hE2 : Ext (rbox w c (.slice (some ⟨b, o, none⟩) c.kinds.length ck) iv bv 2 n 0) w2 := below_grown (base := w.heap.size + 2) (show Below (rbox w c (.slice (some ⟨b, o, none⟩) c.kinds.length ck) iv bv 2 n 0).heap.size (rbox w c (.slice (some ⟨b, o, none⟩) c.kinds.length ck) iv bv 2 n 0) _ from (by repeat first | exact Ext.refl _ | assumption | refine Ext.drew ?_ | refine Ext.drewN ?_ _ | refine Ext.extBy ?_ _ | refine Ext.alloc ?_ _ | refine Ext.setCell ?_ (by simp; try omega) _ | (refine Ext.trans ?_ (by assumption)))) (by simp) (by have := hE1.size; simp at this ⊢; omega) (by first | exact hown1 | exact hown1.alloc _) hg2))
  all_goals
    go_wp2
    go_ret2
    exact StepR.yes (m := l ++ [kk]) ((show Ext w (rbox w c (.slice (some ⟨b, o, none⟩) c.kinds.length ck) iv bv 2 n 0) from ((Ext.refl _).alloc _).alloc _).trans hE2) rfl (fun m' hm => (Option.some.inj hm).symm) (own_slice hown2) (fun m' hm => Stk.own hown2 (by simp) (by simp) (snoc_bd hlb.out hkb) (by omega) (by omega))
end Go.Proofs.Ytipfcfaigbeakaa

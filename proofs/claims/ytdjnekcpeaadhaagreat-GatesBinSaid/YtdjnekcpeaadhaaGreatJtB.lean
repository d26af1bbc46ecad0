/-
  The walks that ask a net: of the document; a wire's value.
  Conditions: the net lies in memory, and is small.
  The program's own walk that asks a net.
  Conditions: the net lies in memory, and is small.
  The walk of a wire's value.
  Conditions: the values lie in memory, the wire is one.
  The reference's walks that count a net's inputs, and tell its gates' values.
  Conditions: the net and the inputs lie in memory, the net is small.
  The reference's walk that tells all gates' values.
  Conditions: the net and the inputs lie in memory, the net is small.
  The program's walk that tells all gates' values.
  Conditions: the net and the inputs lie in memory, the net is small.
-/
import Derived.Test.YtdjnekcpeaadhaaGreatJtA
import Derived.WalkMore
import Derived.OwnWalk
namespace Go.Proofs.YtdjnekcpeaadhaaGreat
open Go.RowKit
set_option linter.unusedSimpArgs false
set_option linter.unusedVariables false
set_option maxRecDepth 100000

theorem netOk_step {l : List GateV} {j : Nat} {q : GateV} (h : l[j]? = some q) : netOk j (l.drop j) = (gateOk j q && netOk (j + 1) (l.drop (j + 1))) := by
  obtain ⟨hl, e⟩ := List.getElem?_eq_some_iff.1 h
  rw [List.drop_eq_getElem_cons hl, e]
  rfl
set_option maxHeartbeats 4000000 in
theorem checkNR_any (l : List GateV) (gv : Value) (w : World) (h : GatesIn w gv l) (hwf : GatesWf l) (hl : l.length ≤ 200000) :
    Calls Tryz.prog 31 #[.agg #[gv]] w fun e w' => e = .returned (.int .i64 (chkN l)) ∧ Ext w w' := by
  obtain ⟨R, hR⟩ : ∃ R, R = chkN l := ⟨_, rfl⟩
  rw [← hR]
  have HK0 : Hid (R = if netOk 0 (l.drop 0) then 0 else 40) := Lib.hid (by rw [hR, List.drop_zero]; rfl)
  have HG := Lib.hid h
  have HW := Lib.hid hwf
  obtain ⟨a, cap, rfl, -, -, -⟩ := id h
  obtain ⟨n, hn⟩ : ∃ n, n = l.length := ⟨_, rfl⟩
  have HN := Lib.hid hn
  rw [← hn] at hl ⊢
  have HG2 : Hid (∀ (j : Nat) (u : Value), (gateCells l)[j]? = some u → ∃ b o, a = some ⟨b, o, none⟩ ∧ w.cell? ⟨b, o + j, none⟩ = some u) := Lib.hid (by
    obtain ⟨a', cap', ea, -, -, hc⟩ := HG.out
    simp only [Value.slice.injEq] at ea
    rw [ea.1]; exact hc)
  clear hR h hwf hn HG
  go_enter Tryz.func31, Tryz.ntmps31
  go_upto_region 1 with fail
  have hbX := BoxV.of_row (heap_alloc_last w (.cells #[.slice a n cap] 28))
  have hE : Ext w (w.alloc (.cells #[.slice a n cap] 28)) := (Ext.refl w).alloc _
  have HE := Lib.hid hE
  have HT : Hid (∀ (j : Nat) (u : Value), (gateCells l)[j]? = some u → ∃ b o, a = some ⟨b, o, none⟩ ∧ (w.alloc (.cells #[.slice a n cap] 28)).cell? ⟨b, o + j, none⟩ = some u) := Lib.hid fun j u hu => by obtain ⟨b, o, e1, e2⟩ := HG2.out j u hu; exact ⟨b, o, e1, hE.cell e2⟩
  generalize w.alloc (.cells #[.slice a n cap] 28) = w1 at hbX hE HE HT ⊢
  generalize w.heap.size = X at hbX ⊢
  have p0 := hbX.cells 0 _ rfl
  have hXl := hbX.lt
  clear hbX hE HG2
  go_wp2
  go_loopw [3] (fun i wr => ∃ j : Nat, j ≤ n ∧ i = .int .i64 j ∧ Ext w1 wr ∧ Hid (R = if netOk j (l.drop j) then 0 else 40)) (fun i _ => n - (intOf i).toNat)
  case atStart => exact ⟨0, Nat.zero_le _, rfl, Ext.refl _, HK0⟩
  case round =>
    obtain ⟨j, hj, rfl, hxr, HK⟩ := hrel
    obtain ⟨t1, rfl⟩ := hxr.tok
    clear hxr HK0
    by_cases hlt : j < n
    · obtain ⟨q, hq⟩ : ∃ q, l[j]? = some q := ⟨_, List.getElem?_eq_getElem (by have := HN.out; omega)⟩
      have hcs3 := gateCells_at l j q hq
      obtain ⟨b3, o3, rfl, g0⟩ := HT.out (j * 3) _ hcs3.1
      obtain ⟨b3', o3', e0, g1⟩ := HT.out (j * 3 + 1) _ hcs3.2.1
      simp only [Option.some.injEq, Addr.mk.injEq] at e0
      obtain ⟨rfl, rfl, -⟩ := e0
      obtain ⟨b3', o3', e0, g2⟩ := HT.out (j * 3 + 2) _ hcs3.2.2
      simp only [Option.some.injEq, Addr.mk.injEq] at e0
      obtain ⟨rfl, rfl, -⟩ := e0
      rw [← Nat.add_assoc] at g1 g2
      have z1 : b3 < w1.heap.size := World.block_lt_of_cell? w1 _ g0
      have HST := Lib.hid (netOk_step hq)
      have hI := HW.out q (List.mem_of_getElem? hq)
      have hji : (j : Int) < (n : Int) := Int.ofNat_lt.2 hlt
      obtain ⟨op, qa, qb⟩ := q
      dsimp only at g0 g1 g2 hI
      clear hq hcs3
      go_upto_region 7 with (refine wpList_store_last rfl 62 (.tmp 4) (.tmp 20) rfl _ _ _ _ rfl rfl (by simp) (by kernel_rfl) (by kernel_rfl) (by kernel_rfl) ?_)
      go_frame
      have hx5 : Ext w1 ((w1.extBy t1).alloc (.cells #[.int .i64 op, .int .i64 qa, .int .i64 qb] 62)) := ((Ext.refl w1).extBy t1).alloc _
      have HB5 := Lib.hid (BoxV.of_row (heap_alloc_last (w1.extBy t1) (.cells #[.int .i64 op, .int .i64 qa, .int .i64 qb] 62)))
      rw [size_extBy] at HB5
      generalize (w1.extBy t1).alloc (.cells #[.int .i64 op, .int .i64 qa, .int .i64 qb] 62) = w5 at hx5 HB5 ⊢
      generalize w1.heap.size + t1.n = Y at HB5 ⊢
      have hY0 := HB5.out.cells 0 _ rfl
      have hY1 := HB5.out.cells 1 _ rfl
      have hY2 := HB5.out.cells 2 _ rfl
      clear g0 g1 g2 z1
      by_cases h1 : op = 1 ∨ op = 2
      · by_cases h0 : qa = 0 ∧ qb = 0
        · have HF : Hid (R = if netOk (j + 1) (l.drop (j + 1)) then 0 else 40) := Lib.hid (by rw [HK.out, HST.out]; unfold gateOk; rw [if_pos h1]; simp [h0])
          obtain ⟨rfl, rfl⟩ := h0
          rcases h1 with rfl | rfl
          · go_wp2
            go_roundw
            case rel => exact ⟨j + 1, by omega, by go_num, hx5, HF⟩
            case measure => simp [intOf]; omega
          · go_wp2
            go_roundw
            case rel => exact ⟨j + 1, by omega, by go_num, hx5, HF⟩
            case measure => simp [intOf]; omega
        · have HF : Hid (R = 40) := Lib.hid (by rw [HK.out, HST.out]; unfold gateOk; rw [if_pos h1, decide_eq_false h0]; simp)
          by_cases ha : qa = 0
          · have hb : (qb != 0) = true := by simp; intro e; exact h0 ⟨ha, e⟩
            subst ha
            rcases h1 with rfl | rfl
            · go_wp2
              go_ret
              exact ⟨by rw [HF.out]; rfl, HE.out.trans hx5⟩
            · go_wp2
              go_ret
              exact ⟨by rw [HF.out]; rfl, HE.out.trans hx5⟩
          · have ha' : (qa != 0) = true := by simpa using ha
            rcases h1 with rfl | rfl
            · go_wp2
              go_ret
              exact ⟨by rw [HF.out]; rfl, HE.out.trans hx5⟩
            · go_wp2
              go_ret
              exact ⟨by rw [HF.out]; rfl, HE.out.trans hx5⟩
      · by_cases h3 : op = 3
        · have hneg : ∀ {P : Prop} [Decidable P], ¬ P → gateOk j ⟨op, qa, qb⟩ = decide P → R = 40 := fun hP e => by rw [HK.out, HST.out, e, decide_eq_false hP]; simp
          have eg : gateOk j ⟨op, qa, qb⟩ = decide (0 ≤ qa ∧ 0 ≤ qb ∧ qa < 2 * (j : Int) ∧ qb < 2 * (j : Int)) := by unfold gateOk; rw [if_neg h1, if_pos h3]
          by_cases hok : 0 ≤ qa ∧ 0 ≤ qb ∧ qa < 2 * (j : Int) ∧ qb < 2 * (j : Int)
          · have HF : Hid (R = if netOk (j + 1) (l.drop (j + 1)) then 0 else 40) := Lib.hid (by rw [HK.out, HST.out, eg, decide_eq_true hok, Bool.true_and])
            obtain ⟨a1, a2, a3, a4⟩ := hok
            subst h3
            clear h1 hneg eg
            go_wp2
            go_roundw
            case rel => exact ⟨j + 1, by omega, by go_num, hx5, HF⟩
            case measure => simp [intOf]; omega
          · have HF : Hid (R = 40) := Lib.hid (hneg hok eg)
            subst h3
            clear h1 hneg eg
            by_cases b1 : 0 ≤ qa
            · by_cases b2 : 0 ≤ qb
              · by_cases b3 : qa < 2 * (j : Int)
                · have b4 : 2 * (j : Int) ≤ qb := by
                    by_cases b4 : qb < 2 * (j : Int)
                    · exact absurd ⟨b1, b2, b3, b4⟩ hok
                    · omega
                  clear hok
                  go_wp2
                  go_ret
                  exact ⟨by rw [HF.out]; rfl, HE.out.trans hx5⟩
                · have b4 : 2 * (j : Int) ≤ qa := by omega
                  clear hok b3
                  go_wp2
                  go_ret
                  exact ⟨by rw [HF.out]; rfl, HE.out.trans hx5⟩
              · have b4 : qb < 0 := by omega
                clear hok b2
                go_wp2
                go_ret
                exact ⟨by rw [HF.out]; rfl, HE.out.trans hx5⟩
            · have b4 : qa < 0 := by omega
              clear hok b1
              go_wp2
              go_ret
              exact ⟨by rw [HF.out]; rfl, HE.out.trans hx5⟩
        · have HF : Hid (R = 40) := Lib.hid (by rw [HK.out, HST.out]; unfold gateOk; rw [if_neg h1, if_neg h3]; simp)
          have e1 : (op == 1) = false := by simp; exact fun e => h1 (.inl e)
          have e2 : (op == 2) = false := by simp; exact fun e => h1 (.inr e)
          have e3 : (op == 3) = false := by simpa using h3
          clear h1 h3
          go_wp2
          go_ret
          exact ⟨by rw [HF.out]; rfl, HE.out.trans hx5⟩
    · have hji : ¬ (j : Int) < (n : Int) := fun e => hlt (Int.ofNat_lt.1 e)
      have HF : Hid (R = 0) := Lib.hid (by rw [HK.out, List.drop_of_length_le (by have := HN.out; omega)]; rfl)
      go_wp2
      go_ret
      exact ⟨by rw [HF.out]; rfl, HE.out.trans (by repeat first | exact Ext.refl _ | assumption | refine Ext.drew ?_ | refine Ext.drewN ?_ _ | refine Ext.extBy ?_ _ | refine Ext.alloc ?_ _ | refine Ext.setCell ?_ (by simp; try omega) _ | (refine Ext.trans ?_ (by assumption)))⟩
end Go.Proofs.YtdjnekcpeaadhaaGreat
namespace Go.Proofs.YtdjnekcpeaadhaaGreat
open Go.RowKit
set_option linter.unusedSimpArgs false
set_option linter.unusedVariables false
set_option maxRecDepth 100000

end Go.Proofs.YtdjnekcpeaadhaaGreat
namespace Go.Proofs.YtdjnekcpeaadhaaGreat
open Go.RowKit
set_option linter.unusedSimpArgs false
set_option linter.unusedVariables false
set_option maxRecDepth 100000

theorem wireR_any (v : List Bool) (vv : Value) (m : Nat) (hm : m < 2 * v.length) (hl : v.length ≤ 1000000) (w : World) (h : SlC w vv v.length (bools v)) :
    Calls Tryz.prog 13 #[vv, .int .i64 (m : Int)] w fun e w' => e = .returned (.bool (wireV v m)) ∧ w = w' := by
  have h1 : (m : Int).tdiv 2 = ((m / 2 : Nat) : Int) := by rw [Int.tdiv_eq_ediv_of_nonneg (by omega)]; omega
  have h2 : (m : Int).tmod 2 = ((m % 2 : Nat) : Int) := by rw [Int.tmod_eq_emod_of_nonneg (by omega)]; omega
  have h3 : ((m : Int)).toNat = m := by omega
  obtain ⟨a, cap, rfl, -, -, hc⟩ := h
  obtain ⟨d, hd⟩ : ∃ d, d = m / 2 := ⟨_, rfl⟩
  obtain ⟨b, hb⟩ : ∃ b, v[d]? = some b := ⟨_, List.getElem?_eq_getElem (by omega)⟩
  obtain ⟨vb, vo, rfl, g0⟩ := hc d (.bool b) (bools_at v d b hb)
  have hdl : (d : Int) < (v.length : Int) := by omega
  rw [← hd] at h1
  by_cases ho : m % 2 = 1
  · have e : wireV v m = !b := by
      unfold wireV
      rw [h3, ← hd, ho]
      simp [List.getD, hb]
    rw [e]
    rw [ho] at h2
    generalize v.length = n at hdl hl hm ⊢
    clear e hd h3 hc hb
    cases b
    · go_enter Tryz.func13, Tryz.ntmps13
      go_wp2
      go_ret
      exact ⟨rfl, rfl⟩
    · go_enter Tryz.func13, Tryz.ntmps13
      go_wp2
      go_ret
      exact ⟨rfl, rfl⟩
  · have h0 : m % 2 = 0 := by omega
    have e : wireV v m = b := by
      unfold wireV
      rw [h3, ← hd, h0]
      simp [List.getD, hb]
    rw [e]
    rw [h0] at h2
    generalize v.length = n at hdl hl hm ⊢
    clear e hd h3 hc hb
    cases b
    · go_enter Tryz.func13, Tryz.ntmps13
      go_wp2
      go_ret
      exact ⟨rfl, rfl⟩
    · go_enter Tryz.func13, Tryz.ntmps13
      go_wp2
      go_ret
      exact ⟨rfl, rfl⟩
end Go.Proofs.YtdjnekcpeaadhaaGreat
namespace Go.Proofs.YtdjnekcpeaadhaaGreat
open Go.RowKit
set_option linter.unusedSimpArgs false
set_option linter.unusedVariables false
set_option maxRecDepth 100000

/-- The next gate's value. -/
def nextV (u ins : List Bool) (k : Nat) (q : GateV) : Bool := if q.op = 2 then ins.getD k false else if q.op = 3 then wireV u q.a && wireV u q.b else false
theorem insN_cons (q : GateV) (l : List GateV) : insN (q :: l) = insN l + if q.op = 2 then 1 else 0 := by
  unfold insN
  by_cases h : q.op = 2
  · simp [h]
  · simp [h]
theorem evalN_snoc : ∀ (l : List GateV) (q : GateV) (v ins : List Bool), evalN (l ++ [q]) v ins = evalN l v ins ++ [nextV (evalN l v ins) ins (insN l) q]
  | [], q, v, ins => by
    simp only [List.nil_append, evalN, nextV, insN]
    split
    · cases ins <;> simp
    · split <;> rfl
  | x :: l, q, v, ins => by
    rw [List.cons_append, insN_cons]
    unfold evalN
    split
    · rw [evalN_snoc l q]
      unfold nextV
      cases ins with
      | nil => simp
      | cons i ins => simp
    · split
      · rw [evalN_snoc l q, Nat.add_zero]
      · rw [evalN_snoc l q, Nat.add_zero]
theorem evalN_take {l : List GateV} {j : Nat} {q : GateV} (hq : l[j]? = some q) (ins : List Bool) : evalN (l.take (j + 1)) [] ins = evalN (l.take j) [] ins ++ [nextV (evalN (l.take j) [] ins) ins (insN (l.take j)) q] := by
  rw [List.take_add_one, hq]; exact evalN_snoc _ _ _ _
theorem insN_append (l m : List GateV) : insN (l ++ m) = insN l + insN m := by unfold insN; simp
theorem insN_take {l : List GateV} {j : Nat} {q : GateV} (hq : l[j]? = some q) : insN (l.take (j + 1)) = insN (l.take j) + if q.op = 2 then 1 else 0 := by
  rw [List.take_add_one, hq, insN_append, Option.toList_some, insN_cons, show insN [] = 0 from rfl, Nat.zero_add]
theorem insN_le (l : List GateV) (j : Nat) : insN (l.take j) ≤ insN l := by
  conv => rhs; rw [← List.take_append_drop j l, insN_append]
  omega
theorem insN_len (l : List GateV) : insN l ≤ l.length := by unfold insN; exact List.length_filter_le _ _
theorem evalN_len0 (l : List GateV) (j : Nat) (hj : j ≤ l.length) (ins : List Bool) : (evalN (l.take j) [] ins).length = j := by rw [evalN_len]; simp; omega
/-- Values so far, and nought behind. -/
def padV (n j : Nat) (A : List Bool) : List Bool := A ++ List.replicate (n - j) false
theorem padV_len {n j : Nat} {A : List Bool} (hA : A.length = j) (hj : j ≤ n) : (padV n j A).length = n := by unfold padV; simp; omega
theorem padV_set {n j : Nat} {A : List Bool} (hA : A.length = j) (hj : j < n) (b : Bool) : (bools (padV n j A)).set j (.bool b) = bools (padV n (j + 1) (A ++ [b])) := by
  unfold bools padV
  rw [List.map_append, List.set_append_right _ _ (by simp [hA]), List.length_map, hA, Nat.sub_self]
  rw [show n - j = (n - (j + 1)) + 1 by omega, List.replicate_succ]
  simp
theorem padV_skip {n j : Nat} {A : List Bool} (hj : j < n) : padV n j A = padV n (j + 1) (A ++ [false]) := by
  unfold padV
  rw [show n - j = (n - (j + 1)) + 1 by omega, List.replicate_succ]
  simp
theorem padV_wire {n j : Nat} {A : List Bool} {w : Int} (hA : A.length = j) (h0 : 0 ≤ w) (h1 : w < 2 * (j : Int)) : wireV (padV n j A) w = wireV A w :=
  wireV_old (fun k hk => by unfold padV; exact List.getElem?_append_left hk) ⟨h0, by rw [hA]; exact h1⟩

/-- What Inputs tells. -/
def InsP (W : World) (R : Nat) (e : Ending) (w' : World) : Prop := ∃ a c, e = .returned (.slice a R c) ∧ Ext W w'
set_option maxHeartbeats 4000000 in
theorem inputsR_any (l : List GateV) (gv : Value) (w : World) (h : GatesIn w gv l) (hl : l.length ≤ 200000) :
    Calls Tryz.prog 28 #[.agg #[gv]] w (InsP w (insN l)) := by
  obtain ⟨R, hR⟩ : ∃ R, R = insN l := ⟨_, rfl⟩
  rw [← hR]
  have HRR := Lib.hid hR
  obtain ⟨a, cap, rfl, -, -, hc⟩ := id h
  have HC := Lib.hid hc
  obtain ⟨n, hn⟩ : ∃ n, n = l.length := ⟨_, rfl⟩
  have HN := Lib.hid hn
  rw [← hn] at hl ⊢
  clear h hc hR hn
  go_enter Tryz.func28, Tryz.ntmps28
  go_upto_region 1 with fail
  have hbX := BoxV.of_row (heap_alloc_last w (.cells #[.slice a n cap] 28))
  have hE : Ext w (w.alloc (.cells #[.slice a n cap] 28)) := (Ext.refl w).alloc _
  generalize hw1 : w.alloc (.cells #[.slice a n cap] 28) = w1 at hbX hE ⊢
  have hX1 : w.heap.size < w1.heap.size := by rw [← hw1, World.size_alloc]; omega
  clear hw1
  generalize hXX : w.heap.size = X at hbX ⊢
  have hXe : w.heap.size = X := hXX
  rw [hXX] at hX1
  clear hXX
  have p0 := hbX.cells 0 _ rfl
  have HE := Lib.hid hE
  clear hbX
  go_wp2
  go_loopw [3, 4] (fun o i wr => ∃ (j : Nat) (xs : List Value) (ov : Value), j ≤ n ∧ i = .int .i64 j ∧ o = ov ∧ Hid (wr.ownsRow w1.heap.size 3 1 ov (insN (l.take j)) xs ∧ Ext w1 wr) ∧ ∃ x y z, ov = .slice x y z) (fun _ i _ => n - (intOf i).toNat)
  case atStart => exact ⟨0, [], _, Nat.zero_le _, rfl, rfl, Lib.hid ⟨own_nil _ _ _ _, Ext.refl _⟩, _, _, _, rfl⟩
  case round =>
    obtain ⟨j, xs, ov, hj, rfl, rfl, HO, ox, oy, oz, rfl⟩ := hrel
    have q0 := HO.out.2.cell p0
    by_cases hlt : j < n
    · have hji : (j : Int) < (n : Int) := Int.ofNat_lt.2 hlt
      obtain ⟨q, hq⟩ : ∃ q, l[j]? = some q := ⟨_, List.getElem?_eq_getElem (by have := HN.out; omega)⟩
      obtain ⟨b3, o3, rfl, g0⟩ := HC.out (j * 3) _ (gateCells_at l j q hq).1
      replace g0 := HO.out.2.cell (HE.out.cell g0)
      have HTK := Lib.hid (insN_take hq)
      have hin : insN (l.take j) ≤ 200000 := by have := insN_le l j; have := insN_len l; have := HN.out; omega
      have hs1 := HO.out.2.size
      obtain ⟨op, qa, qb⟩ := q
      dsimp only at g0
      clear hq
      by_cases h2 : op = 2
      · have HK : Hid (insN (l.take (j + 1)) = insN (l.take j) + 1) := Lib.hid (by rw [HTK.out]; simp [h2])
        subst h2
        go_wp2_with (at_builtin; (refine wpList_append_slc _ rfl (.tmp 19) (.tmp 21) 29 rfl w1.heap.size 3 (.int .i64 0) 1 8 Tryz.underlying29 infoInt rfl (by decide) (.slice ox oy oz) (insN (l.take j)) xs rfl (ownsRow_ext HO.out.1 (by repeat first | exact Ext.refl _ | assumption | refine Ext.drew ?_ | refine Ext.drewN ?_ _ | refine Ext.extBy ?_ _ | refine Ext.alloc ?_ _ | refine Ext.setCell ?_ (by simp; try omega) _ | (refine Ext.trans ?_ (by assumption)))) _ 1 [.int .i64 (j : Int)] rfl (SlC.fresh _ #[.int .i64 (j : Int)] _ 1 _ (by simp) (by decide)) rfl (by simp [Value.oneCell']) (by unfold maxLen; omega) (by omega) (by simp; omega) ?_; intro v3 w6 hown3 hg3 hat3; obtain ⟨x3, y3, z3, rfl⟩ := own_slice3 hown3; have HP := Lib.hid (And.intro hown3 (below_grown (B := w1.heap.size) (base := w1.heap.size) (HO.out.2.alloc _) (Nat.le_refl _) (by simp; omega) (ownsRow_ext HO.out.1 (by repeat first | exact Ext.refl _ | assumption | refine Ext.drew ?_ | refine Ext.drewN ?_ _ | refine Ext.extBy ?_ _ | refine Ext.alloc ?_ _ | refine Ext.setCell ?_ (by simp; try omega) _ | (refine Ext.trans ?_ (by assumption)))) hg3)); clear hown3 hg3 hat3))
        exact ⟨⟨j + 1, _, _, by omega, by go_num, rfl, by rw [HK.out]; exact Lib.hid HP.out, _, _, _, rfl⟩, by simp [intOf]; omega⟩
      · have HK : Hid (insN (l.take (j + 1)) = insN (l.take j)) := Lib.hid (by rw [HTK.out]; simp [h2])
        have h2b : (op == 2) = false := by simpa using h2
        clear h2
        go_wp2
        exact ⟨⟨j + 1, _, _, by omega, by go_num, rfl, by rw [HK.out]; exact HO, _, _, _, rfl⟩, by simp [intOf]; omega⟩
    · have hji : ¬ (j : Int) < (n : Int) := fun e => hlt (Int.ofNat_lt.1 e)
      have hRj : oy = R := by
        have h1 := HO.out.1
        rw [List.take_of_length_le (by have := HN.out; omega), ← HRR.out] at h1
        obtain ⟨a', c', e⟩ := own_n h1
        simp only [Value.slice.injEq] at e
        exact e.2.1
      subst hRj
      go_wp2
      go_ret
      exact ⟨_, _, rfl, HE.out.trans HO.out.2⟩
end Go.Proofs.YtdjnekcpeaadhaaGreat
namespace Go.Proofs.YtdjnekcpeaadhaaGreat
open Go.RowKit
set_option linter.unusedSimpArgs false
set_option linter.unusedVariables false
set_option maxRecDepth 100000

theorem chkN_or (l : List GateV) : (chkN l = 40 ∧ netOk 0 l = false) ∨ (chkN l = 0 ∧ netOk 0 l = true) := by
  unfold chkN
  cases h : netOk 0 l
  · exact .inl ⟨by simp, rfl⟩
  · exact .inr ⟨by simp, rfl⟩

/-- What Eval tells. -/
def EvP (W : World) (l : List GateV) (ins : List Bool) (e : Ending) (w' : World) : Prop :=
  (netOk 0 l = false ∧ e = .returned (.tuple #[.slice none 0 0, .int .i64 40]) ∧ Ext W w') ∨ (netOk 0 l = true ∧ insN l ≠ ins.length ∧ e = .returned (.tuple #[.slice none 0 0, .int .i64 23]) ∧ Ext W w') ∨
  (netOk 0 l = true ∧ insN l = ins.length ∧ ∃ g, e = .returned (.tuple #[.slice (some ⟨g, 0, none⟩) l.length l.length, .int .i64 0]) ∧ Ext W w' ∧ w'.ownsRow W.heap.size 4 1 (.slice (some ⟨g, 0, none⟩) l.length l.length) l.length (bools (evalN l [] ins)))
/-- What the walk of Eval keeps. -/
structure EvS (W : World) (X g n : Nat) (gv : Value) (A : List Bool) (j : Nat) (w : World) : Prop where
  ext : Ext W w
  box : BoxV X [gv] w
  own : w.ownsRow W.heap.size 4 1 (.slice (some ⟨g, 0, none⟩) n n) n (bools (padV n j A))
  len : A.length = j
  ne : g ≠ X
theorem EvS.next {W w w' : World} {X g n j : Nat} {gv : Value} {A : List Bool} (h : EvS W X g n gv A j w) (hx : Ext w w') : EvS W X g n gv A j w' :=
  { h with ext := h.ext.trans hx, box := h.box.ext hx, own := ownsRow_ext h.own hx }
theorem EvS.put {W w : World} {X g n j : Nat} {gv : Value} {A : List Bool} (h : EvS W X g n gv A j w) (hj : j < n) (b : Bool) : EvS W X g n gv (A ++ [b]) (j + 1) (w.setCell ⟨g, j, none⟩ (.bool b)) :=
  ⟨h.ext.setCell (p := ⟨g, j, none⟩) (h.own.lt g rfl).1 _, h.box.other h.ne _ _, by rw [← padV_set h.len hj]; exact own_set1 h.own j hj _, by simp [h.len], h.ne⟩
theorem EvS.skip {W w : World} {X g n j : Nat} {gv : Value} {A : List Bool} (h : EvS W X g n gv A j w) (hj : j < n) : EvS W X g n gv (A ++ [false]) (j + 1) w :=
  { h with own := by rw [← padV_skip hj]; exact h.own, len := by simp [h.len] }
theorem EvS.cell {W w : World} {X g n j : Nat} {gv : Value} {A : List Bool} (h : EvS W X g n gv A j w) (hj : j < n) : (∃ u, w.cell? ⟨g, j, none⟩ = some u) ∧ w.frozen? ⟨g, j, none⟩ = false := by
  obtain ⟨y, e1, e2⟩ := own_room1 h.own j hj
  exact ⟨⟨y, e1⟩, e2⟩

theorem infoBool : (Tryz.prog.info? 4).map (fun i => (i.zero, i.size, i.bytes)) = some (some (.bool false), 1, 1) := by kernel_rfl
theorem padV_zero (n : Nat) : (madeCells (Value.bool false).cells (n * 1)).toList = bools (padV n 0 []) := by
  rw [Nat.mul_one, show (Value.bool false).cells = #[Value.bool false] from rfl, toList_madeCells_one]
  simp [padV, bools]
set_option maxHeartbeats 8000000 in
theorem evalR_any (l : List GateV) (gv : Value) (ins : List Bool) (iv : Value) (w : World) (h : GatesIn w gv l) (hwf : GatesWf l) (hi : SlC w iv ins.length (bools ins)) (hl : l.length ≤ 200000) :
    Calls Tryz.prog 12 #[.agg #[gv], iv] w (EvP w l ins) := by
  obtain ⟨Q, hQ⟩ : ∃ Q, Q = EvP w l ins := ⟨_, rfl⟩
  rw [← hQ]
  have HQ := Lib.hid hQ
  obtain ⟨a, cap, rfl, -, -, hc⟩ := id h
  obtain ⟨ai, capi, rfl, hi1, hi2, hic⟩ := id hi
  have HG := Lib.hid (And.intro hwf (And.intro hc hic))
  obtain ⟨n, hn⟩ : ∃ n, n = l.length := ⟨_, rfl⟩
  obtain ⟨I, hI⟩ : ∃ n, n = ins.length := ⟨_, rfl⟩
  have HN := Lib.hid (And.intro hn hI)
  have HGn : Hid (GatesIn w (.slice a n cap) l) := Lib.hid (by rw [hn]; exact h)
  have hIb : I ≤ 9223372036854775807 := by have := hi2; unfold maxLen at this; omega
  rw [← hn] at hl
  rw [← hn, ← hI]
  clear h hc hic hi hi1 hi2 hwf hQ hn hI
  go_enter Tryz.func12, Tryz.ntmps12
  go_upto_region 1 with fail
  have hbX := BoxV.of_row (heap_alloc_last w (.cells #[.slice a n cap] 28))
  have hE : Ext w (w.alloc (.cells #[.slice a n cap] 28)) := (Ext.refl w).alloc _
  generalize w.alloc (.cells #[.slice a n cap] 28) = w1 at hbX hE ⊢
  obtain ⟨X, hX⟩ : ∃ X, X = w.heap.size := ⟨_, rfl⟩
  rw [← hX] at hbX ⊢
  have p0 := hbX.cells 0 _ rfl
  have hlX := hbX.lt
  have HE := Lib.hid (And.intro hE (And.intro hbX hX))
  have HG1 : Hid (GatesIn w1 (.slice a n cap) l) := Lib.hid (HGn.out.ext hE)
  clear hbX hE hX
  rcases chkN_or l with ⟨hc, ho⟩ | ⟨hc, ho⟩
  · have HC := Lib.hid hc
    have HO := Lib.hid ho
    clear hc ho
    go_wp2_with (go_at_call 31; refine (checkNR_any l _ _ (SlC.ext HG1.out (by repeat first | exact Ext.refl _ | assumption | refine Ext.drew ?_ | refine Ext.drewN ?_ _ | refine Ext.extBy ?_ _ | refine Ext.alloc ?_ _ | refine Ext.setCell ?_ (by simp; try omega) _ | (refine Ext.trans ?_ (by assumption)))) HG.out.1 (by have := HN.out; omega)).mono ?_; rintro e w' ⟨rfl, hE'⟩; rw [HC.out]; (first | (with_reducible obtain ⟨t2, rfl⟩ := Ext.tok2 hE') | (obtain ⟨t2, rfl⟩ := Ext.tok hE')))
    (try go_ret2)
    rw [HQ.out]
    exact .inl ⟨HO.out, rfl, HE.out.1.trans (Ext.by w1 t2)⟩
  · have HC := Lib.hid hc
    have HO := Lib.hid ho
    clear hc ho
    obtain ⟨K, hK⟩ : ∃ K, K = insN l := ⟨_, rfl⟩
    have HK := Lib.hid hK
    have hKb : K ≤ 200000 := by have := insN_len l; have := HN.out; omega
    clear hK
    by_cases hKI : K = I
    · subst hKI
      obtain ⟨i0, hi, hz0, hz1, hz2⟩ := info_parts infoBool
      go_upto_region 7 with (first | (go_at_call 31; refine (checkNR_any l _ _ (SlC.ext HG1.out (by repeat first | exact Ext.refl _ | assumption | refine Ext.drew ?_ | refine Ext.drewN ?_ _ | refine Ext.extBy ?_ _ | refine Ext.alloc ?_ _ | refine Ext.setCell ?_ (by simp; try omega) _ | (refine Ext.trans ?_ (by assumption)))) HG.out.1 (by have := HN.out; omega)).mono ?_; rintro e w' ⟨rfl, hE'⟩; rw [HC.out]; (first | (with_reducible obtain ⟨t2, rfl⟩ := Ext.tok2 hE') | (obtain ⟨t2, rfl⟩ := Ext.tok hE'))) | (go_at_call 28; refine (inputsR_any l _ _ (SlC.ext HG1.out (by repeat first | exact Ext.refl _ | assumption | refine Ext.drew ?_ | refine Ext.drewN ?_ _ | refine Ext.extBy ?_ _ | refine Ext.alloc ?_ _ | refine Ext.setCell ?_ (by simp; try omega) _ | (refine Ext.trans ?_ (by assumption)))) (by have := HN.out; omega)).mono ?_; rintro e w' ⟨ja, jc, rfl, hE'⟩; rw [← HK.out]; (first | (with_reducible obtain ⟨t3, rfl⟩ := Ext.tok2 hE') | (obtain ⟨t3, rfl⟩ := Ext.tok hE'))) | (at_make; refine wpList_make_full _ rfl _ _ 36 rfl w.heap.size 4 i0 (.bool false) 1 Tryz.underlying36 hi hz0 hz1 .i64 .i64 (n : Int) (n : Int) n rfl rfl rfl rfl (by rw [hz2]; omega) (by unfold maxLen; omega) (by have := HE.out.1.size; simp; omega) ?_; intro w3 hown3 hg3; have HP := Lib.hid (And.intro hown3 hg3); clear hown3 hg3))
      obtain ⟨g, hgg⟩ : ∃ g, g = w1.heap.size + t3.n := ⟨_, rfl⟩
      have hT := Ext.by w1 t3
      have hEV : Hid (EvS w X g n (.slice a n cap) [] 0 w3) := Lib.hid (by
        obtain ⟨h1, h2⟩ := HP.out
        have hx : Ext (w1.extBy t3) w3 := ⟨h2.os, h2.tape, h2.output, h2.size, fun k hk => h2.block k hk (by simp)⟩
        refine ⟨(HE.out.1.trans hT).trans hx, (HE.out.2.1.ext hT).ext hx, ?_, rfl, by omega⟩
        rw [← padV_zero, hgg, show w1.heap.size + t3.n = (w1.extBy t3).heap.size by simp]
        exact h1)
      rw [← hgg]
      clear HP hgg hT hE' p0 hlX HE HG1 hi hz0 hz1 hz2
      go_wp2
      go_loopw [8, 9] (fun k8 i wr => ∃ j : Nat, j ≤ n ∧ i = .int .i64 j ∧ k8 = .int .i64 (insN (l.take j) : Int) ∧ Hid (EvS w X g n (.slice a n cap) (evalN (l.take j) [] ins) j wr)) (fun _ i _ => n - (intOf i).toNat)
      case atStart => exact ⟨0, Nat.zero_le _, rfl, rfl, hEV⟩
      case round =>
        obtain ⟨j, hj, rfl, rfl, HV⟩ := hrel
        clear hEV
        have q0 := HV.out.box.cells 0 _ rfl
        by_cases hlt : j < n
        · have hji : (j : Int) < (n : Int) := Int.ofNat_lt.2 hlt
          obtain ⟨q, hq⟩ : ∃ q, l[j]? = some q := ⟨_, List.getElem?_eq_getElem (by have := HN.out; omega)⟩
          have hcs3 := gateCells_at l j q hq
          obtain ⟨b3, o3, rfl, g0⟩ := HG.out.2.1 (j * 3) _ hcs3.1
          obtain ⟨b3', o3', e0, g1⟩ := HG.out.2.1 (j * 3 + 1) _ hcs3.2.1
          simp only [Option.some.injEq, Addr.mk.injEq] at e0
          obtain ⟨rfl, rfl, -⟩ := e0
          obtain ⟨b3', o3', e0, g2⟩ := HG.out.2.1 (j * 3 + 2) _ hcs3.2.2
          simp only [Option.some.injEq, Addr.mk.injEq] at e0
          obtain ⟨rfl, rfl, -⟩ := e0
          rw [← Nat.add_assoc] at g1 g2
          replace g0 := HV.out.ext.cell g0
          replace g1 := HV.out.ext.cell g1
          replace g2 := HV.out.ext.cell g2
          have hgok := netOk_at HO.out hq
          rw [Nat.zero_add] at hgok
          have HGOK := Lib.hid hgok
          have HST := Lib.hid (And.intro (evalN_take hq ins) (insN_take hq))
          have hkl := insN_le l j
          have hkl2 := insN_le l (j + 1)
          rw [insN_take hq, ← HK.out] at hkl2
          rw [← HK.out] at hkl
          obtain ⟨op, qa, qb⟩ := q
          dsimp only at g0 g1 g2 hkl2
          clear hq hcs3 hgok
          go_upto_region 12 with (refine wpList_store_last rfl 62 (.tmp 10) (.tmp 39) rfl _ _ _ _ rfl rfl (by simp) (by kernel_rfl) (by kernel_rfl) (by kernel_rfl) ?_)
          go_frame
          have HB5 := Lib.hid (BoxV.of_row (heap_alloc_last wr (.cells #[.int .i64 op, .int .i64 qa, .int .i64 qb] 62)))
          have HV5 := Lib.hid (HV.out.next ((Ext.refl wr).alloc (.cells #[.int .i64 op, .int .i64 qa, .int .i64 qb] 62)))
          clear HV q0
          generalize wr.alloc (.cells #[.int .i64 op, .int .i64 qa, .int .i64 qb] 62) = w5 at HV5 HB5 ⊢
          generalize wr.heap.size = Y at HB5 ⊢
          have hY0 := HB5.out.cells 0 _ rfl
          have hY1 := HB5.out.cells 1 _ rfl
          have hY2 := HB5.out.cells 2 _ rfl
          obtain ⟨⟨u, r0⟩, rf⟩ := HV5.out.cell hlt
          obtain ⟨kk, hkk⟩ : ∃ k, k = insN (l.take j) := ⟨_, rfl⟩
          rw [← hkk] at hkl hkl2 ⊢
          have HKK := Lib.hid hkk
          clear g0 g1 g2 hkk
          by_cases h2 : op = 2
          · subst h2
            simp only [if_true] at hkl2
            obtain ⟨b, hb⟩ : ∃ b, ins[kk]? = some b := ⟨_, List.getElem?_eq_getElem (by have := HN.out; omega)⟩
            obtain ⟨bi, oi, rfl, f0⟩ := HG.out.2.2 kk (.bool b) (bools_at ins kk b hb)
            replace f0 := HV5.out.ext.cell f0
            have hkI : (kk : Int) < (K : Int) := by omega
            have hnx : Hid (evalN (l.take (j + 1)) [] ins = evalN (l.take j) [] ins ++ [b] ∧ insN (l.take (j + 1)) = kk + 1) := Lib.hid (by
              refine ⟨?_, by rw [HST.out.2, ← HKK.out]; simp⟩
              rw [HST.out.1, ← HKK.out]
              simp [nextV, List.getD, hb])
            clear hb
            go_wp2
            exact ⟨⟨j + 1, by omega, by go_num, by rw [hnx.out.2]; go_num, by rw [hnx.out.1]; exact Lib.hid (HV5.out.put hlt b)⟩, by simp [intOf]; omega⟩
          · by_cases h3 : op = 3
            · have hrg : 0 ≤ qa ∧ 0 ≤ qb ∧ qa < 2 * (j : Int) ∧ qb < 2 * (j : Int) := by
                have := HGOK.out
                unfold gateOk at this
                dsimp only at this
                rw [if_neg (by omega), if_pos h3] at this
                simpa using this
              subst h3
              obtain ⟨a1, a2, a3, a4⟩ := hrg
              obtain ⟨ma, rfl⟩ : ∃ m : Nat, qa = (m : Int) := ⟨qa.toNat, by omega⟩
              obtain ⟨mb, rfl⟩ : ∃ m : Nat, qb = (m : Int) := ⟨qb.toNat, by omega⟩
              obtain ⟨xa, hxa⟩ : ∃ x, x = wireV (evalN (l.take j) [] ins) (ma : Int) := ⟨_, rfl⟩
              obtain ⟨xb, hxb⟩ : ∃ x, x = wireV (evalN (l.take j) [] ins) (mb : Int) := ⟨_, rfl⟩
              have hpl := padV_len HV5.out.len hj
              have HWA : Hid (Calls Tryz.prog 13 #[.slice (some ⟨g, 0, none⟩) n n, .int .i64 (ma : Int)] w5 fun e w' => e = .returned (.bool xa) ∧ w5 = w') := Lib.hid (by
                have := wireR_any (padV n j (evalN (l.take j) [] ins)) (.slice (some ⟨g, 0, none⟩) n n) ma (by rw [hpl]; omega) (by rw [hpl]; omega) w5 (by rw [hpl]; exact SlC.of_owns HV5.out.own)
                rwa [padV_wire HV5.out.len a1 a3, ← hxa] at this)
              have HWB : Hid (Calls Tryz.prog 13 #[.slice (some ⟨g, 0, none⟩) n n, .int .i64 (mb : Int)] w5 fun e w' => e = .returned (.bool xb) ∧ w5 = w') := Lib.hid (by
                have := wireR_any (padV n j (evalN (l.take j) [] ins)) (.slice (some ⟨g, 0, none⟩) n n) mb (by rw [hpl]; omega) (by rw [hpl]; omega) w5 (by rw [hpl]; exact SlC.of_owns HV5.out.own)
                rwa [padV_wire HV5.out.len a2 a4, ← hxb] at this)
              have hnx : Hid (evalN (l.take (j + 1)) [] ins = evalN (l.take j) [] ins ++ [xa && xb] ∧ insN (l.take (j + 1)) = kk) := Lib.hid (by
                refine ⟨?_, by rw [HST.out.2, ← HKK.out]; simp⟩
                rw [HST.out.1, hxa, hxb]
                simp [nextV])
              clear hxa hxb hpl h2
              cases xa <;> cases xb <;>
              · go_wp2_with (go_at_call 13; (first | (with_reducible refine HWA.out.mono ?_) | (with_reducible refine HWB.out.mono ?_)); rintro e w' ⟨rfl, rfl⟩)
                exact ⟨⟨j + 1, by omega, by go_num, by rw [hnx.out.2], by rw [hnx.out.1]; exact Lib.hid (HV5.out.put hlt _)⟩, by simp [intOf]; omega⟩
            · have h2b : (op == 2) = false := by simpa using h2
              have h3b : (op == 3) = false := by simpa using h3
              have hnx : Hid (evalN (l.take (j + 1)) [] ins = evalN (l.take j) [] ins ++ [false] ∧ insN (l.take (j + 1)) = kk) := Lib.hid (by
                refine ⟨?_, by rw [HST.out.2, ← HKK.out]; simp [h2]⟩
                rw [HST.out.1]
                simp [nextV, h2, h3])
              clear h2 h3
              go_wp2
              exact ⟨⟨j + 1, by omega, by go_num, by rw [hnx.out.2], by rw [hnx.out.1]; exact Lib.hid (HV5.out.skip hlt)⟩, by simp [intOf]; omega⟩
        · have hji : ¬ (j : Int) < (n : Int) := fun e => hlt (Int.ofNat_lt.1 e)
          obtain rfl : j = n := by omega
          have hF := HV.out.own
          have hX := HV.out.ext
          rw [List.take_of_length_le (by have := HN.out; omega), show padV j j (evalN l [] ins) = evalN l [] ins by simp [padV]] at hF
          have HF := Lib.hid (And.intro hF hX)
          clear hF hX HV
          go_wp2
          (try go_ret2)
          rw [HQ.out]
          refine .inr (.inr ⟨HO.out, by rw [← HK.out, ← HN.out.2], g, by rw [← HN.out.1], HF.out.2, by rw [← HN.out.1]; exact HF.out.1⟩)
    · have hne : ((K : Int) != (I : Int)) = true := by simp; omega
      go_wp2_with (first | (go_at_call 31; refine (checkNR_any l _ _ (SlC.ext HG1.out (by repeat first | exact Ext.refl _ | assumption | refine Ext.drew ?_ | refine Ext.drewN ?_ _ | refine Ext.extBy ?_ _ | refine Ext.alloc ?_ _ | refine Ext.setCell ?_ (by simp; try omega) _ | (refine Ext.trans ?_ (by assumption)))) HG.out.1 (by have := HN.out; omega)).mono ?_; rintro e w' ⟨rfl, hE'⟩; rw [HC.out]; (first | (with_reducible obtain ⟨t2, rfl⟩ := Ext.tok2 hE') | (obtain ⟨t2, rfl⟩ := Ext.tok hE'))) | (go_at_call 28; refine (inputsR_any l _ _ (SlC.ext HG1.out (by repeat first | exact Ext.refl _ | assumption | refine Ext.drew ?_ | refine Ext.drewN ?_ _ | refine Ext.extBy ?_ _ | refine Ext.alloc ?_ _ | refine Ext.setCell ?_ (by simp; try omega) _ | (refine Ext.trans ?_ (by assumption)))) (by have := HN.out; omega)).mono ?_; rintro e w' ⟨ja, jc, rfl, hE'⟩; rw [← HK.out]; (first | (with_reducible obtain ⟨t3, rfl⟩ := Ext.tok2 hE') | (obtain ⟨t3, rfl⟩ := Ext.tok hE'))))
      (try go_ret2)
      rw [HQ.out]
      exact .inr (.inl ⟨HO.out, by rw [← HK.out, ← HN.out.2]; exact hKI, rfl, HE.out.1.trans (Ext.by w1 t3)⟩)
end Go.Proofs.YtdjnekcpeaadhaaGreat
namespace Go.Proofs.YtdjnekcpeaadhaaGreat
open Go.RowKit
set_option linter.unusedSimpArgs false
set_option linter.unusedVariables false
set_option maxRecDepth 100000

theorem SlC.next1 {w : World} {b o M C : Nat} {xs : List Bool} {kk : Nat} (h : SlC w (.slice (some ⟨b, o, none⟩) (M + 1) (C + 1)) (M + 1) (bools (xs.drop kk))) (hl : (xs.drop kk).length = M + 1) : SlC w (.slice (if C = 0 then some ⟨b, o, none⟩ else some ⟨b, o + 1, none⟩) M C) M (bools (xs.drop (kk + 1))) := by
  obtain ⟨a, cap, e, h1, h2, hc⟩ := h
  simp only [Value.slice.injEq] at e
  obtain ⟨rfl, -, rfl⟩ := e
  refine ⟨_, C, rfl, by omega, by omega, fun j u hu => ?_⟩
  have hj : j < (xs.drop (kk + 1)).length := by have := (List.getElem?_eq_some_iff.1 hu).1; simpa [bools] using this
  rw [List.length_drop] at hl hj
  have hu2 : (bools (xs.drop kk))[j + 1]? = some u := by
    rw [← hu]
    simp only [bools, List.getElem?_map, List.getElem?_drop]
    rw [show kk + (j + 1) = kk + 1 + j by omega]
  obtain ⟨b', o', e', hcell⟩ := hc (j + 1) u hu2
  simp only [Option.some.injEq, Addr.mk.injEq] at e'
  obtain ⟨rfl, rfl, -⟩ := e'
  refine ⟨b, o + 1, by rw [if_neg (by omega)], ?_⟩
  rw [show o + 1 + j = o + (j + 1) by omega]
  exact hcell
end Go.Proofs.YtdjnekcpeaadhaaGreat

/-
  The reference's walk that compares two formulas that are one.
  Conditions: both lie in memory, and are small.
-/
import Derived.Test.YtlikmdeplpldlaaDoorCnfN
namespace Go.Proofs.YtlikmdeplpldlaaDoor
open Go.RowKit
set_option linter.unusedSimpArgs false
set_option linter.unusedVariables false
set_option maxRecDepth 100000

set_option maxHeartbeats 4000000 in
theorem sameF_any (x : Int) (cv dv : Value) (vs us : List Value) (rs : List (List Int)) (w : World) (h1 : RowsIn w cv vs rs) (h2 : RowsIn w dv us rs) (hs : szF rs ≤ 1000000) :
    Calls Tryd.prog 18 #[.agg #[.int .i64 x, cv], .agg #[.int .i64 x, dv]] w fun e w' => e = .returned (.bool true) ∧ Ext w w' := by
  obtain ⟨n, hn⟩ : ∃ n, n = rs.length := ⟨_, rfl⟩
  have hlen := szF_len rs
  have hn2 : n ≤ 1000000 := by omega
  obtain ⟨a, cap, rfl, -, -, h1c⟩ := id h1.top
  obtain ⟨a2, cap2, rfl, -, -, h2c⟩ := id h2.top
  have HS := Lib.hid (And.intro hs hn)
  have HR1 := Lib.hid (And.intro h1 h1c)
  have HR2 := Lib.hid (And.intro h2 h2c)
  rw [← hn]
  clear hlen hs hn h1 h2 h1c h2c
  go_enter Tryd.func18, Tryd.ntmps18
  go_upto_region 1 with fail
  have hbX := (BoxV.of_row (heap_alloc_last w (.cells #[.int .i64 x, .slice a n cap] 24))).ext ((Ext.refl _).alloc (.cells #[.int .i64 x, .slice a2 n cap2] 24))
  have hbY := BoxV.of_row (heap_alloc_last (w.alloc (.cells #[.int .i64 x, .slice a n cap] 24)) (.cells #[.int .i64 x, .slice a2 n cap2] 24))
  have hE : Ext w ((w.alloc (.cells #[.int .i64 x, .slice a n cap] 24)).alloc (.cells #[.int .i64 x, .slice a2 n cap2] 24)) := ((Ext.refl w).alloc _).alloc _
  rw [World.size_alloc] at hbY
  have HE := Lib.hid hE
  generalize (w.alloc (.cells #[.int .i64 x, .slice a n cap] 24)).alloc (.cells #[.int .i64 x, .slice a2 n cap2] 24) = w2 at hbX hbY hE HE ⊢
  generalize w.heap.size + 1 = Y at hbY ⊢
  generalize w.heap.size = X at hbX ⊢
  have p0 := hbX.cells 0 _ rfl
  have p1 := hbX.cells 1 _ rfl
  have q0 := hbY.cells 0 _ rfl
  have q1 := hbY.cells 1 _ rfl
  have hl1 := hbX.lt
  have hl2 := hbY.lt
  clear hbX hbY hE
  go_wp2
  go_loopw [5] (fun i wr => ∃ j : Nat, j ≤ n ∧ i = .int .i64 j ∧ Ext w2 wr) (fun i _ => n - (intOf i).toNat)
  case atStart => exact ⟨0, Nat.zero_le _, rfl, Ext.refl _⟩
  case round =>
    obtain ⟨j, hj, rfl, hxr⟩ := hrel
    (first | (with_reducible obtain ⟨t1, rfl⟩ := Ext.tok2 hxr) | (obtain ⟨t1, rfl⟩ := Ext.tok hxr))
    by_cases hlt : j < n
    · have hji : (j : Int) < (n : Int) := Int.ofNat_lt.2 hlt
      obtain ⟨y, r, hy, hr, hs1⟩ := HR1.out.1.at (j := j) (by have := HS.out.2; omega)
      obtain ⟨y2, r2, hy2, hr2, hs2⟩ := HR2.out.1.at (j := j) (by have := HS.out.2; omega)
      have er : r2 = r := by rw [hr] at hr2; exact (Option.some.inj hr2).symm
      subst er
      obtain ⟨b1, o1, rfl, f1⟩ := HR1.out.2 j y hy
      obtain ⟨b2, o2, rfl, f2⟩ := HR2.out.2 j y2 hy2
      have z1 := Nat.lt_of_lt_of_le (World.block_lt_of_cell? w _ f1) HE.out.size
      have z2 := Nat.lt_of_lt_of_le (World.block_lt_of_cell? w _ f2) HE.out.size
      replace f1 := HE.out.cell f1
      replace f2 := HE.out.cell f2
      dsimp only at z1 z2
      obtain ⟨ya, yc, rfl, -, -, hc1⟩ := hs1
      obtain ⟨yb, yd, rfl, -, -, hc2⟩ := hs2
      have HC1 := Lib.hid hc1
      have HC2 := Lib.hid hc2
      obtain ⟨L, hL⟩ : ∃ L, L = r2.length := ⟨_, rfl⟩
      have HL := Lib.hid hL
      have hL2 : L ≤ 1000000 := by have := szF_mem (List.mem_of_getElem? hr); have := HS.out.1; omega
      rw [← hL] at f1 f2
      clear hy hy2 hr hr2 hc1 hc2 hL
      go_upto_region 6 with fail
      (refine region_drew (by kernel_rfl) (by kernel_rfl) ?_; (repeat (go_big_quiet_step (fail))); refine wpQuiet_nil ?_; rintro _ ⟨nq, rfl⟩)
      have hx8 := (Ext.by w2 t1).drewN nq
      generalize (w2.extBy t1).drewN nq = wq at hx8 ⊢
      (first | (with_reducible obtain ⟨t2, rfl⟩ := Ext.tok2 hx8) | (obtain ⟨t2, rfl⟩ := Ext.tok hx8))
      go_wp2
      go_loopw [6] (fun i wr => ∃ k : Nat, k ≤ L ∧ i = .int .i64 k ∧ Ext w2 wr) (fun i _ => L - (intOf i).toNat)
      case atStart => exact ⟨0, Nat.zero_le _, rfl, Ext.by w2 _⟩
      case round =>
        obtain ⟨k, hk, rfl, hxr⟩ := hrel
        (first | (with_reducible obtain ⟨t3, rfl⟩ := Ext.tok2 hxr) | (obtain ⟨t3, rfl⟩ := Ext.tok hxr))
        by_cases hlt2 : k < L
        · have hkl : (k : Int) < (L : Int) := Int.ofNat_lt.2 hlt2
          obtain ⟨q, hq⟩ : ∃ q, r2[k]? = some q := ⟨_, List.getElem?_eq_getElem (by have := HL.out; omega)⟩
          obtain ⟨c1, d1, rfl, g1⟩ := HC1.out k (.int .i64 q) (by simp [i64s, hq])
          obtain ⟨c2, d2, rfl, g2⟩ := HC2.out k (.int .i64 q) (by simp [i64s, hq])
          have z3 := Nat.lt_of_lt_of_le (World.block_lt_of_cell? w _ g1) HE.out.size
          have z4 := Nat.lt_of_lt_of_le (World.block_lt_of_cell? w _ g2) HE.out.size
          replace g1 := HE.out.cell g1
          replace g2 := HE.out.cell g2
          dsimp only at z3 z4
          clear hq
          go_upto_region 11 with fail
          (refine region_drew (by kernel_rfl) (by kernel_rfl) ?_; (repeat (go_big_quiet_step (fail))); refine wpQuiet_nil ?_; rintro _ ⟨nq, rfl⟩)
          have hx9 := (Ext.by w2 t3).drewN nq
          generalize (w2.extBy t3).drewN nq = wq at hx9 ⊢
          (first | (with_reducible obtain ⟨t4, rfl⟩ := Ext.tok2 hx9) | (obtain ⟨t4, rfl⟩ := Ext.tok hx9))
          go_wp2
          go_roundw
          case rel => exact ⟨k + 1, by omega, by go_num, Ext.by w2 _⟩
          case measure => simp [intOf]; omega
        · have hkl : ¬ (k : Int) < (L : Int) := fun e => hlt2 (Int.ofNat_lt.1 e)
          go_wp2
          go_roundw
          case rel => exact ⟨j + 1, by omega, by go_num, Ext.by w2 _⟩
          case measure => simp [intOf]; omega
    · have hji : ¬ (j : Int) < (n : Int) := fun e => hlt (Int.ofNat_lt.1 e)
      go_wp2
      go_ret
      exact ⟨rfl, HE.out.trans (Ext.by w2 _)⟩
end Go.Proofs.YtlikmdeplpldlaaDoor

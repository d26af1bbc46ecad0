/-
  bytes.IndexAny at the bytes blank and newline, on ASCII bytes: at most eight bytes.
  Conditions: two bytes or more, all below 128.
-/
import Derived.Shelf.Strings.IndexAny
import Derived.Shelf.Strings.AsciiSet
import Derived.Lib.Bytealg
import Derived.Lib.IndexAny
import Derived.Test.YtlikmdeplpldlaaDoorShB
import Derived.Test.YtlikmdeplpldlaaDoorKit8
namespace Go.Proofs.YtlikmdeplpldlaaDoor
open Go.RowKit
set_option linter.unusedSimpArgs false
set_option linter.unusedVariables false
set_option maxRecDepth 100000

theorem shouldA (n : Int) (w : World) : Calls Tryd.prog 53 #[.int .i64 n] w fun e w' => e = .returned (.bool (decide (8 < n))) ∧ w' = w := by
  go_enter Tryd.func53, Tryd.ntmps53
  go_wp2
  go_ret
  exact ⟨rfl, rfl⟩
set_option maxHeartbeats 4000000 in
set_option maxRecDepth 100000 in
theorem indexAny_few (g o n c : Nat) (bs : List UInt8) (w : World) (hl : bs.length = n) (h2 : 2 ≤ n) (h8 : n ≤ 8) (hnc : n ≤ c) (hc : c ≤ maxLen) (hA : ∀ i, i < n → w.cell? ⟨g, o + i, none⟩ = some (.int .u8 (bs.getD i 0).toNat)) (h128 : ∀ i, i < n → (bs.getD i 0).toNat < 128) :
    Calls Tryd.prog 43 #[.slice (some ⟨g, o, none⟩) n c, .string ⟨#[32, 10]⟩] w fun e w' => e = .returned (.int .i64 (Lib.indexAny bs [32, 10])) ∧ w' = w := by
  have HA := Lib.hid (And.intro hA h128)
  have hn1 : ((n : Int) == 1) = false := beq_eq_false_iff_ne.2 (by omega)
  have h8z : decide ((8 : Int) < (n : Int)) = false := decide_eq_false (by omega)
  have HL := Lib.hid hl
  clear hA h128 hl
  go_enter Tryd.func43, Tryd.ntmps43
  go_wp2_with (go_at_call 53; refine (shouldA _ _).mono ?_; rintro e w' ⟨rfl, hw⟩; rw [hw, h8z])
  go_loopw [12] (fun i wr => ∃ j : Nat, j ≤ n ∧ i = .int .i64 j ∧ wr = w ∧ Hid (Lib.NoAny bs [32, 10] j)) (fun i _ => n - (intOf i).toNat)
  case atStart => exact ⟨0, Nat.zero_le _, rfl, rfl, Lib.hid (Lib.NoAny.zero _ _)⟩
  case round =>
    obtain ⟨j, hj, rfl, hwr, HN⟩ := hrel
    subst hwr
    by_cases hlt : j < n
    · have hji : (j : Int) < (n : Int) := Int.ofNat_lt.2 hlt
      obtain ⟨x, hx⟩ : ∃ x, x = bs.getD j 0 := ⟨_, rfl⟩
      have hcell := HA.out.1 j hlt
      have hx8 := HA.out.2 j hlt
      rw [← hx] at hcell hx8
      have HX : Hid (bs[j]? = some x) := Lib.hid (by rw [hx, Lib.getElem?_getD_sl bs j 0 (by rw [HL.out]; exact hlt)])
      have hx9 : ((x.toNat : Nat) : Int) < 128 := by omega
      have hback : ((x.toNat : Int)).toNat.toUInt8 = x := by simp
      have hcon := Lib.contains_iff_indexByte [32, 10] x
      clear hx
      cases hin : ([32, 10] : List UInt8).contains x
      · rw [hin] at hcon
        have hlt2 : ¬ ((0 : Int) ≤ Lib.indexByte [32, 10] x) := of_decide_eq_false hcon.symm
        clear hcon
        go_wp2
        rw [run_callFunc_extern Tryd.func51 (by kernel_rfl) (by kernel_rfl) (by kernel_rfl) (e := Extern.BytealgIndexByte.indexByte) (by kernel_rfl), Lib.run_indexByteString, hback]
        simp only [Result.andThen]
        rw [Oper.upon_value]
        go_wp2
        exact ⟨⟨j + 1, by omega, by go_num, by first | rfl | trivial, Lib.hid (HN.out.succ HX.out hin)⟩, by simp [intOf]; omega⟩
      · rw [hin] at hcon
        have hge : (0 : Int) ≤ Lib.indexByte [32, 10] x := of_decide_eq_true hcon.symm
        clear hcon
        go_wp2
        rw [run_callFunc_extern Tryd.func51 (by kernel_rfl) (by kernel_rfl) (by kernel_rfl) (e := Extern.BytealgIndexByte.indexByte) (by kernel_rfl), Lib.run_indexByteString, hback]
        simp only [Result.andThen]
        rw [Oper.upon_value]
        go_wp2
        go_ret
        exact ⟨by rw [Lib.indexAny_hit HN.out HX.out hin]; rfl, rfl⟩
    · have hji : ¬ (j : Int) < (n : Int) := fun e => hlt (Int.ofNat_lt.1 e)
      obtain rfl : j = n := by omega
      go_wp2
      go_ret
      exact ⟨by rw [Lib.indexAny_none (by rw [HL.out]; exact HN.out)]; rfl, rfl⟩
theorem infoSet : (Tryd.prog.info? 87).map (fun i => (i.zero, i.size)) = some (some (.agg (Array.replicate 256 (.bool false))), 256) := by kernel_rfl
theorem sizeSet (w : World) : (Go.sizeOf 87).run Tryd.prog w = .ok 256 w := by
  obtain ⟨i, hi, hs⟩ := Option.map_eq_some_iff.1 (zero_of_info infoSet).2
  simp [Go.sizeOf, typeInfo, hi, hs]
set_option maxHeartbeats 4000000 in
theorem setContains (x : UInt8) (v : Bool) (b : Nat) (w : World) (h : w.cell? ⟨b, x.toNat, none⟩ = some (.bool v)) :
    Calls Tryd.prog 54 #[.pointer (some ⟨b, 0, none⟩), .int .u8 x.toNat] w fun e w' => e = .returned (.bool v) ∧ w' = w := by
  have hx := x.toNat_lt
  go_enter Tryd.func54, Tryd.ntmps54
  go_wp2
  go_ret
  exact ⟨rfl, rfl⟩
theorem zeroSet : Tryd.zeroCells87 = Array.replicate 256 (.bool false) := by kernel_rfl
theorem makeSet (w : World) : Calls Tryd.prog 48 #[.string ⟨#[32, 10]⟩] w fun e w' => e = .returned (.tuple #[.agg (Lib.setCells [32, 10]), .bool true]) ∧ w' = w.alloc (.cells (Lib.setCells [32, 10]) 87) :=
  Any.bytes_makeASCIISet { Tryd.laysAS with } (zero_of_info infoSet).1 (zero_of_info infoSet).2 ⟨#[32, 10]⟩ w (by decide) (by
    intro j b hb
    match j with
    | 0 => simp at hb; subst hb; decide
    | 1 => simp at hb; subst hb; decide
    | j + 2 => simp at hb)
theorem storeSet (w : World) (S : Array Value) (hS : S = Lib.setCells [32, 10]) : (storeCells ⟨w.heap.size + 1, 0, none⟩ S.toList 0).run Tryd.prog ((w.alloc (.cells S 87)).alloc (.cells (Array.replicate 256 (.bool false)) 87)) = .ok () ((w.alloc (.cells S 87)).alloc (.cells S 87)) := by
  have hsz : S.size = 256 := by rw [hS]; exact Lib.setCells_size _
  have := run_storeCells_new (P := Tryd.prog) (w.alloc (.cells S 87)) 87 (Array.replicate 256 (.bool false)) S (by rw [hsz]; exact (zero_of_info infoSet).2) (by rw [hsz, Array.size_replicate]) (by rw [hS]; exact Lib.setCells_one _)
  simpa using this
set_option maxHeartbeats 4000000 in
set_option maxRecDepth 100000 in
theorem indexAny_many (g o n c : Nat) (bs : List UInt8) (w : World) (hl : bs.length = n) (h8 : 8 < n) (hnc : n ≤ c) (hc : c ≤ maxLen) (hA : ∀ i, i < n → w.cell? ⟨g, o + i, none⟩ = some (.int .u8 (bs.getD i 0).toNat)) :
    Calls Tryd.prog 43 #[.slice (some ⟨g, o, none⟩) n c, .string ⟨#[32, 10]⟩] w fun e w' => e = .returned (.int .i64 (Lib.indexAny bs [32, 10])) ∧ Ext w w' := by
  have hM := makeSet w
  have hnm : (n : Int) ≤ 9223372036854775807 := by unfold maxLen at hc; omega
  have hn1 : ((n : Int) == 1) = false := beq_eq_false_iff_ne.2 (by omega)
  have h8z : decide ((8 : Int) < (n : Int)) = true := decide_eq_true (by omega)
  obtain ⟨S, hS⟩ : ∃ S, S = Lib.setCells [32, 10] := ⟨_, rfl⟩
  have hsz : S.size = 256 := by rw [hS]; exact Lib.setCells_size _
  have hsc := storeSet w S hS
  rw [← zeroSet] at hsc
  have hcellAt : ∀ x : UInt8, ((w.alloc (.cells S 87)).alloc (.cells S 87)).cell? ⟨w.heap.size + 1, x.toNat, none⟩ = some (.bool (([32, 10] : List UInt8).contains x)) := fun x => by
    rw [World.cell?_alloc_at _ _ _ _ (by simp), hS, Lib.setCells_at]
  have hE : Ext w ((w.alloc (.cells S 87)).alloc (.cells S 87)) := ((Ext.refl w).alloc _).alloc _
  have HA := Lib.hid (And.intro hA hl)
  have HC := Lib.hid hcellAt
  have HE := Lib.hid hE
  have hM2 : Hid (Calls Tryd.prog 48 #[.string ⟨#[32, 10]⟩] w fun e w' => e = .returned (.tuple #[.agg S, .bool true]) ∧ w' = w.alloc (.cells S 87)) := Lib.hid (by rw [hS]; exact hM)
  clear hA hl hcellAt hE hM hS
  go_enter Tryd.func43, Tryd.ntmps43
  go_wp2_with (first | (go_at_call 53; refine (shouldA _ _).mono ?_; rintro e w' ⟨rfl, hw⟩; rw [hw, h8z]) | (go_at_call 48; refine hM2.out.mono ?_; rintro e w' ⟨rfl, hw⟩; rw [hw]))
  clear hsc
  generalize (w.alloc (.cells S 87)).alloc (.cells S 87) = w1 at HC HE ⊢
  obtain ⟨N, hN⟩ : ∃ N, N = w.heap.size + 1 := ⟨_, rfl⟩
  rw [← hN] at HC ⊢
  clear hw hM2 hN
  go_loopw [62] (fun i wr => ∃ j : Nat, j ≤ n ∧ i = .int .i64 j ∧ wr = w1 ∧ Hid (Lib.NoAny bs [32, 10] j)) (fun i _ => n - (intOf i).toNat)
  case atStart => exact ⟨0, Nat.zero_le _, rfl, rfl, Lib.hid (Lib.NoAny.zero _ _)⟩
  case round =>
    obtain ⟨j, hj, rfl, hwr, HN⟩ := hrel
    subst hwr
    by_cases hlt : j < n
    · have hji : (j : Int) < (n : Int) := Int.ofNat_lt.2 hlt
      obtain ⟨x, hx⟩ : ∃ x, x = bs.getD j 0 := ⟨_, rfl⟩
      have hcell := HE.out.cell (HA.out.1 j hlt)
      rw [← hx] at hcell
      have HX : Hid (bs[j]? = some x) := Lib.hid (by rw [hx, Lib.getElem?_getD_sl bs j 0 (by rw [HA.out.2]; exact hlt)])
      have hcx := HC.out x
      clear hx
      cases hin : ([32, 10] : List UInt8).contains x <;> rw [hin] at hcx
      · go_wp2_with (go_at_call 54; refine (setContains x _ _ _ hcx).mono ?_; rintro e w' ⟨rfl, hw⟩; rw [hw])
        exact ⟨⟨j + 1, by omega, by go_num, by first | rfl | trivial, Lib.hid (HN.out.succ HX.out hin)⟩, by simp [intOf]; omega⟩
      · go_wp2_with (go_at_call 54; refine (setContains x _ _ _ hcx).mono ?_; rintro e w' ⟨rfl, hw⟩; rw [hw])
        go_ret
        exact ⟨by rw [Lib.indexAny_hit HN.out HX.out hin]; rfl, HE.out⟩
    · have hji : ¬ (j : Int) < (n : Int) := fun e => hlt (Int.ofNat_lt.1 e)
      obtain rfl : j = n := by omega
      go_wp2
      go_ret
      exact ⟨by rw [Lib.indexAny_none (by rw [HA.out.2]; exact HN.out)]; rfl, HE.out⟩
/-- IndexAny at blank and newline. -/
theorem indexAnyB (g o n c : Nat) (bs : List UInt8) (w : World) (hl : bs.length = n) (h2 : 2 ≤ n) (hnc : n ≤ c) (hc : c ≤ maxLen) (hA : ∀ i, i < n → w.cell? ⟨g, o + i, none⟩ = some (.int .u8 (bs.getD i 0).toNat)) (h128 : ∀ i, i < n → (bs.getD i 0).toNat < 128) :
    Calls Tryd.prog 43 #[.slice (some ⟨g, o, none⟩) n c, .string ⟨#[32, 10]⟩] w fun e w' => e = .returned (.int .i64 (Lib.indexAny bs [32, 10])) ∧ Ext w w' := by
  by_cases h : n ≤ 8
  · exact (indexAny_few g o n c bs w hl h2 h hnc hc hA h128).mono fun e w' ⟨h1, h2⟩ => ⟨h1, h2 ▸ Ext.refl _⟩
  · exact indexAny_many g o n c bs w hl (by omega) hnc hc hA
end Go.Proofs.YtlikmdeplpldlaaDoor

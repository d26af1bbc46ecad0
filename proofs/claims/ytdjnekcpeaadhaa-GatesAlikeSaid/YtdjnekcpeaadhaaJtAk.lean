/-
  The walk of the law GatesAlike.
  Condition: what Kind tells.
-/
import Derived.Test.YtdjnekcpeaadhaaJtL
import Derived.Test.YtdjnekcpeaadhaaJtK
namespace Go.Proofs.Ytdjnekcpeaadhaa
open Go.RowKit Go.Maps
set_option linter.unusedSimpArgs false
set_option linter.unusedVariables false
set_option maxRecDepth 100000

/-- The same with the numbers by name. -/
def NetV (n m : Nat) (L : List Gt) (ks : List Nat) (ok : Bool) (w : World) (e : Ending) (w' : World) : Prop :=
  ∃ ga gc q c, e = .returned (.tuple #[.agg #[.slice ga n gc], .slice q m c, .bool ok]) ∧ Hid (Ext w w' ∧ w'.ownsRow w.heap.size 30 3 (.slice ga n gc) n (gcells L) ∧ w'.ownsRow w.heap.size 3 1 (.slice q m c) m (wvs ks) ∧ ∀ b, (Value.slice ga n gc).ownBlock = some b → (Value.slice q m c).ownBlock ≠ some b)
set_option maxHeartbeats 8000000 in
theorem gatesAlike_any (hK : KindC) (op k : Int) (two : Bool) (w : World) :
    Calls Try.prog 3 #[.int .i64 op, .int .i64 k, .bool two] w fun e w' => e = .returned (.bool true) ∧ Ext w w' := by
  have HAL := Lib.hid (alive22_any hK)
  obtain ⟨R, ok, hok, hU⟩ := opU hK op k two
  obtain ⟨L, hL⟩ : ∃ L, L = R.1.gs := ⟨_, rfl⟩
  obtain ⟨ks, hks⟩ : ∃ l, l = R.2 := ⟨_, rfl⟩
  obtain ⟨n, hn⟩ : ∃ n, n = L.length := ⟨_, rfl⟩
  obtain ⟨m, hm⟩ : ∃ n, n = ks.length := ⟨_, rfl⟩
  have HU : Hid (∀ w, Calls Try.prog 7 #[.int .i64 op, .int .i64 k, .bool two] w (NetV n m L ks ok w)) := Lib.hid (fun w => (hU w).mono fun e w' h => by rw [hn, hm, hL, hks]; exact h)
  have HN : Hid (n = L.length ∧ m = ks.length ∧ ∀ g ∈ L, 1 ≤ g.op) := Lib.hid ⟨hn, hm, fun g hg => (hok.1 g (by rw [← hL]; exact hg)).2.1⟩
  have hnb : n ≤ 200000 := by rw [hn, hL]; exact hok.2.1
  have hmb : m ≤ 64 := by rw [hm, hks]; exact hok.2.2
  clear hK hU hok hL hks hn hm
  go_enter Try.func3, Try.ntmps3
  go_upto_region 4 with (first | (go_at_call 6; refine (HAL.out _).mono ?_; rintro e w0 ⟨rfl, hx0⟩; have HX0 := Lib.hid hx0; clear hx0) | (go_at_call 7; first | (have hn1 := HN1.out; clear hn1; refine (HU.out _).mono ?_; rintro e w2 ⟨gb, cb, qb, db, rfl, HN2⟩) | (refine (HU.out _).mono ?_; rintro e w1 ⟨ga, ca, qa, da, rfl, HN1⟩)))
  have hbA := BoxV.of_row (heap_alloc_last w1 (.cells #[.slice ga n ca] 25))
  have hbB := BoxV.of_row (heap_alloc_last w2 (.cells #[.slice gb n cb] 25))
  have hEA : Ext w (w1.alloc (.cells #[.slice ga n ca] 25)) := HX0.out.trans (HN1.out.1.trans ((Ext.refl w1).alloc _))
  have hEB : Ext (w1.alloc (.cells #[.slice ga n ca] 25)) (w2.alloc (.cells #[.slice gb n cb] 25)) := HN2.out.1.trans ((Ext.refl w2).alloc _)
  have HRA : Hid ((w1.alloc (.cells #[.slice ga n ca] 25)).ownsRow w0.heap.size 30 3 (.slice ga n ca) n (gcells L) ∧ (w1.alloc (.cells #[.slice ga n ca] 25)).ownsRow w0.heap.size 3 1 (.slice qa m da) m (wvs ks)) := Lib.hid ⟨ownsRow_ext HN1.out.2.1 ((Ext.refl w1).alloc _), ownsRow_ext HN1.out.2.2.1 ((Ext.refl w1).alloc _)⟩
  obtain ⟨XA, hXA⟩ : ∃ X, X = w1.heap.size := ⟨_, rfl⟩
  obtain ⟨XB, hXB⟩ : ∃ X, X = w2.heap.size := ⟨_, rfl⟩
  rw [← hXA] at hbA ⊢
  rw [← hXB] at hbB ⊢
  have HL := Lib.hid (show AL (w1.alloc (.cells #[.slice ga n ca] 25)) XB (.slice gb n cb) (.slice qb m db) n m (gcells L) (wvs ks) (w2.alloc (.cells #[.slice gb n cb] 25)) from
    { ext := hEB, box := hbB, rb := ownsRow_ext HN2.out.2.1 ((Ext.refl w2).alloc _), rl := ownsRow_ext HN2.out.2.2.1 ((Ext.refl w2).alloc _), gX := fun e => by have := (HN2.out.2.1.lt XB e).2; omega, lX := fun e => by have := (HN2.out.2.2.1.lt XB e).2; omega, gl := HN2.out.2.2.2 })
  have HEA := Lib.hid hEA
  have HBA := Lib.hid hbA
  generalize w1.alloc (.cells #[.slice ga n ca] 25) = wA at hbA hEB HRA HL HEA HBA ⊢
  generalize w2.alloc (.cells #[.slice gb n cb] 25) = wB at hbB hEB HL ⊢
  have pA := hEB.cell (hbA.cells 0 _ rfl)
  have pB := hbB.cells 0 _ rfl
  have lA := Nat.lt_of_lt_of_le hbA.lt hEB.size
  have lB := hbB.lt
  clear HN1 HN2 HX0 hbA hbB hEA hEB hXA hXB
  cases ok <;>
  · go_upto_region 6 with fail
    clear pA pB lA lB
    go_wp2
    go_loopw [14] (fun i wr => ∃ (j : Nat) (ys : List Value), j ≤ n ∧ i = .int .i64 j ∧ Hid (AL wA XB (.slice gb n cb) (.slice qb m db) n m ys (wvs ks) wr) ∧ Hid (∀ t, j * 3 ≤ t → ys[t]? = (gcells L)[t]?)) (fun i _ => n - (intOf i).toNat)
    case atStart => exact ⟨0, _, Nat.zero_le _, rfl, HL, Lib.hid (fun t _ => rfl)⟩
    case round =>
      obtain ⟨j, ys, hj, rfl, HR, HY⟩ := hrel
      clear HL
      have pA := HR.out.ext.cell (HBA.out.cells 0 _ rfl)
      have pB := HR.out.box.cells 0 _ rfl
      have lA := Nat.lt_of_lt_of_le HBA.out.lt HR.out.ext.size
      have lB := HR.out.box.lt
      by_cases hlt : j < n
      · have hji : (j : Int) < (n : Int) := Int.ofNat_lt.2 hlt
        obtain ⟨g, hg⟩ : ∃ g, L[j]? = some g := ⟨_, List.getElem?_eq_getElem (by have := HN.out.1; omega)⟩
        obtain ⟨ba, rfl, a0, a1, a2, a3⟩ := gate_cells HRA.out.1 j g hg (fun t _ => rfl)
        obtain ⟨bb, rfl, b0, b1, b2, b3⟩ := gate_cells HR.out.rb j g hg HY.out
        replace a0 := HR.out.ext.cell a0
        replace a1 := HR.out.ext.cell a1
        replace a2 := HR.out.ext.cell a2
        replace a3 := Nat.lt_of_lt_of_le a3 HR.out.ext.size
        have HR5 := Lib.hid (HR.out.next (Ext.refl wr).drew)
        have hca : ¬ ca = 0 := fun e => by
          obtain ⟨a', c', e1, h1, -⟩ := SlC.of_owns HRA.out.1
          simp only [Value.slice.injEq] at e1
          omega
        have hcb : ¬ cb = 0 := fun e => by
          obtain ⟨a', c', e1, h1, -⟩ := SlC.of_owns HR.out.rb
          simp only [Value.slice.injEq] at e1
          omega
        have hth := own_room3 HR5.out.rb j hlt
        clear hg
        go_wp2
        go_region
        go_wp2_with (refine wpList_store_mid rfl 30 (.tmp 82) (.tmp 81) rfl bb _ #[.int .i64 (-1), .int .i64 0, .int .i64 0] rfl rfl hth rfl (by simp [Value.oneCell']) ?_)
        exact ⟨⟨j + 1, _, by omega, by go_num, Lib.hid (HR5.out.put3 _ _ _), Lib.hid (fun t ht => by
          rw [List.getElem?_set_ne (by omega), List.getElem?_set_ne (by omega), List.getElem?_set_ne (by omega)]
          exact HY.out t (by omega))⟩, by simp [intOf]; omega⟩
      · have hji : ¬ (j : Int) < (n : Int) := fun e => hlt (Int.ofNat_lt.1 e)
        clear HY hlt hj
        obtain ⟨wq, hwq⟩ : ∃ x, x = wr := ⟨_, rfl⟩
        subst hwq
        go_wp2
        clear pA pB lA lB
        go_loopw [15] (fun i wr => ∃ (j : Nat) (zs : List Value), j ≤ m ∧ i = .int .i64 j ∧ Hid (AL wA XB (.slice gb n cb) (.slice qb m db) n m ys zs wr) ∧ Hid (∀ t, j ≤ t → zs[t]? = (wvs ks)[t]?)) (fun i _ => m - (intOf i).toNat)
        case atStart => exact ⟨0, _, Nat.zero_le _, rfl, HR, Lib.hid (fun t _ => rfl)⟩
        case round =>
          obtain ⟨i, zs, hi, rfl, HS, HZ⟩ := hrel
          clear HR
          by_cases hlt : i < m
          · have hii : (i : Int) < (m : Int) := Int.ofNat_lt.2 hlt
            obtain ⟨x, hx⟩ : ∃ g, ks[i]? = some g := ⟨_, List.getElem?_eq_getElem (by have := HN.out.2.1; omega)⟩
            obtain ⟨ba, rfl, a0, a3⟩ := wire_cell HRA.out.2 i x hx (fun t _ => rfl)
            obtain ⟨bb, rfl, b0, b3⟩ := wire_cell HS.out.rl i x hx HZ.out
            replace a0 := HS.out.ext.cell a0
            replace a3 := Nat.lt_of_lt_of_le a3 HS.out.ext.size
            have HS5 := Lib.hid (HS.out.next (Ext.refl wr).drew)
            have hda : ¬ da = 0 := fun e => by
              obtain ⟨a', c', e1, h1, -⟩ := SlC.of_owns HRA.out.2
              simp only [Value.slice.injEq] at e1
              omega
            have hdb : ¬ db = 0 := fun e => by
              obtain ⟨a', c', e1, h1, -⟩ := SlC.of_owns HS.out.rl
              simp only [Value.slice.injEq] at e1
              omega
            obtain ⟨y, -, hfz⟩ := own_room1 HS5.out.rl i hlt
            have hfz0 : wr.frozen? ⟨bb, i, none⟩ = false := by obtain ⟨y, -, hf⟩ := own_room1 HS.out.rl i hlt; exact hf
            clear hx
            go_wp2
            go_region
            go_wp2
            exact ⟨⟨i + 1, _, by omega, by go_num, Lib.hid (HS5.out.put1 hlt _), Lib.hid (fun t ht => by
              rw [List.getElem?_set_ne (by omega)]
              exact HZ.out t (by omega))⟩, by simp [intOf]; omega⟩
          · have hii : ¬ (i : Int) < (m : Int) := fun e => hlt (Int.ofNat_lt.1 e)
            clear HZ hlt hi
            obtain ⟨wp, hwp⟩ : ∃ x, x = wr := ⟨_, rfl⟩
            subst hwp
            go_upto_region 19 with (go_at_call 7; refine (HU.out _).mono ?_; rintro e w5 ⟨gc, cc, qc, dc, rfl, HN5⟩)
            have hbC := BoxV.of_row (heap_alloc_last w5 (.cells #[.slice gc n cc] 25))
            have hE5 : Ext w5 (w5.alloc (.cells #[.slice gc n cc] 25)) := (Ext.refl w5).alloc _
            have HE6 := Lib.hid (HS.out.ext.trans (HN5.out.1.trans hE5))
            have HR6 := Lib.hid (ownsRow_ext HN5.out.2.1 hE5)
            have HBC := Lib.hid hbC
            generalize w5.alloc (.cells #[.slice gc n cc] 25) = w6 at hbC hE5 HE6 HR6 HBC ⊢
            generalize w5.heap.size = XC at hbC HBC ⊢
            clear hbC hE5 HN5 HS
            go_wp2
            go_loopw [19] (fun i wr => ∃ (j : Nat), j ≤ n ∧ i = .int .i64 j ∧ Ext w6 wr) (fun i _ => n - (intOf i).toNat)
            case atStart => exact ⟨0, Nat.zero_le _, rfl, Ext.refl _⟩
            case round =>
              obtain ⟨j, hj, rfl, hxr⟩ := hrel
              have HXA := Lib.hid (HE6.out.trans hxr)
              have HXR := Lib.hid hxr
              have pA := HXA.out.cell (HBA.out.cells 0 _ rfl)
              have pC := hxr.cell (HBC.out.cells 0 _ rfl)
              have lA := Nat.lt_of_lt_of_le HBA.out.lt HXA.out.size
              have lC := Nat.lt_of_lt_of_le HBC.out.lt hxr.size
              by_cases hlt : j < n
              · have hji : (j : Int) < (n : Int) := Int.ofNat_lt.2 hlt
                obtain ⟨g, hg⟩ : ∃ g, L[j]? = some g := ⟨_, List.getElem?_eq_getElem (by have := HN.out.1; omega)⟩
                obtain ⟨ba, rfl, a0, a1, a2, a3⟩ := gate_cells HRA.out.1 j g hg (fun t _ => rfl)
                obtain ⟨bb, rfl, b0, b1, b2, b3⟩ := gate_cells HR6.out j g hg (fun t _ => rfl)
                replace a0 := HXA.out.cell a0
                replace a1 := HXA.out.cell a1
                replace a2 := HXA.out.cell a2
                replace a3 := Nat.lt_of_lt_of_le a3 HXA.out.size
                replace b0 := hxr.cell b0
                replace b1 := hxr.cell b1
                replace b2 := hxr.cell b2
                replace b3 := Nat.lt_of_lt_of_le b3 hxr.size
                have hca : ¬ ca = 0 := fun e => by
                  obtain ⟨a', c', e1, h1, -⟩ := SlC.of_owns HRA.out.1
                  simp only [Value.slice.injEq] at e1
                  omega
                have hcc : ¬ cc = 0 := fun e => by
                  obtain ⟨a', c', e1, h1, -⟩ := SlC.of_owns HR6.out
                  simp only [Value.slice.injEq] at e1
                  omega
                have hg1 : (1 : Int) ≤ (g.op : Int) := by have := HN.out.2.2 g (List.mem_of_getElem? hg); omega
                clear hg hxr
                go_wp2
                go_region
                go_wp2
                exact ⟨⟨j + 1, by omega, by go_num, HXR.out.drew⟩, by simp [intOf]; omega⟩
              · have hji : ¬ (j : Int) < (n : Int) := fun e => hlt (Int.ofNat_lt.1 e)
                clear hxr
                go_wp2
                go_ret
                exact ⟨rfl, HEA.out.trans HXA.out⟩
end Go.Proofs.Ytdjnekcpeaadhaa

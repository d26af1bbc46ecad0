/-
  What bv.Bin does: one theorem an operation, then all.
  No condition but that the second number fits 64 bits.
-/
import Derived.Test.YtmommjagndadjaaJcB
namespace Go.Proofs.Ytmommjagndadjaa
open Go.RowKit
set_option linter.unusedSimpArgs false
set_option linter.unusedVariables false
set_option maxRecDepth 100000

def rowsCells : Array Value := #[.int .i64 0, .nilFunc, .int .i64 0, .nilFunc, .int .i64 0, .nilFunc, .int .i64 2, .func (.func 87) #[] #[], .int .i64 2, .func (.func 89) #[] #[], .int .i64 2, .func (.func 90) #[] #[], .int .i64 2, .func (.func 91) #[] #[], .int .i64 2, .func (.func 92) #[] #[], .int .i64 3, .func (.func 93) #[] #[], .int .i64 3, .func (.func 94) #[] #[], .int .i64 3, .func (.func 95) #[] #[], .int .i64 1, .func (.func 96) #[] #[], .int .i64 2, .func (.func 97) #[] #[], .int .i64 2, .func (.func 98) #[] #[], .int .i64 3, .func (.func 99) #[] #[], .int .i64 3, .func (.func 100) #[] #[], .int .i64 2, .func (.func 101) #[] #[], .int .i64 2, .func (.func 102) #[] #[], .int .i64 2, .func (.func 103) #[] #[], .int .i64 2, .func (.func 104) #[] #[]]
@[go_sem] theorem rowsCells_0 : rowsCells[0]? = some (.int .i64 0) := by kernel_rfl
@[go_sem] theorem rowsCells_1 : rowsCells[1]? = some (.nilFunc) := by kernel_rfl
@[go_sem] theorem rowsCells_2 : rowsCells[2]? = some (.int .i64 0) := by kernel_rfl
@[go_sem] theorem rowsCells_3 : rowsCells[3]? = some (.nilFunc) := by kernel_rfl
@[go_sem] theorem rowsCells_4 : rowsCells[4]? = some (.int .i64 0) := by kernel_rfl
@[go_sem] theorem rowsCells_5 : rowsCells[5]? = some (.nilFunc) := by kernel_rfl
@[go_sem] theorem rowsCells_6 : rowsCells[6]? = some (.int .i64 2) := by kernel_rfl
@[go_sem] theorem rowsCells_7 : rowsCells[7]? = some (.func (.func 87) #[] #[]) := by kernel_rfl
@[go_sem] theorem rowsCells_8 : rowsCells[8]? = some (.int .i64 2) := by kernel_rfl
@[go_sem] theorem rowsCells_9 : rowsCells[9]? = some (.func (.func 89) #[] #[]) := by kernel_rfl
@[go_sem] theorem rowsCells_10 : rowsCells[10]? = some (.int .i64 2) := by kernel_rfl
@[go_sem] theorem rowsCells_11 : rowsCells[11]? = some (.func (.func 90) #[] #[]) := by kernel_rfl
@[go_sem] theorem rowsCells_12 : rowsCells[12]? = some (.int .i64 2) := by kernel_rfl
@[go_sem] theorem rowsCells_13 : rowsCells[13]? = some (.func (.func 91) #[] #[]) := by kernel_rfl
@[go_sem] theorem rowsCells_14 : rowsCells[14]? = some (.int .i64 2) := by kernel_rfl
@[go_sem] theorem rowsCells_15 : rowsCells[15]? = some (.func (.func 92) #[] #[]) := by kernel_rfl
@[go_sem] theorem rowsCells_16 : rowsCells[16]? = some (.int .i64 3) := by kernel_rfl
@[go_sem] theorem rowsCells_17 : rowsCells[17]? = some (.func (.func 93) #[] #[]) := by kernel_rfl
@[go_sem] theorem rowsCells_18 : rowsCells[18]? = some (.int .i64 3) := by kernel_rfl
@[go_sem] theorem rowsCells_19 : rowsCells[19]? = some (.func (.func 94) #[] #[]) := by kernel_rfl
@[go_sem] theorem rowsCells_20 : rowsCells[20]? = some (.int .i64 3) := by kernel_rfl
@[go_sem] theorem rowsCells_21 : rowsCells[21]? = some (.func (.func 95) #[] #[]) := by kernel_rfl
@[go_sem] theorem rowsCells_22 : rowsCells[22]? = some (.int .i64 1) := by kernel_rfl
@[go_sem] theorem rowsCells_23 : rowsCells[23]? = some (.func (.func 96) #[] #[]) := by kernel_rfl
@[go_sem] theorem rowsCells_24 : rowsCells[24]? = some (.int .i64 2) := by kernel_rfl
@[go_sem] theorem rowsCells_25 : rowsCells[25]? = some (.func (.func 97) #[] #[]) := by kernel_rfl
@[go_sem] theorem rowsCells_26 : rowsCells[26]? = some (.int .i64 2) := by kernel_rfl
@[go_sem] theorem rowsCells_27 : rowsCells[27]? = some (.func (.func 98) #[] #[]) := by kernel_rfl
@[go_sem] theorem rowsCells_28 : rowsCells[28]? = some (.int .i64 3) := by kernel_rfl
@[go_sem] theorem rowsCells_29 : rowsCells[29]? = some (.func (.func 99) #[] #[]) := by kernel_rfl
@[go_sem] theorem rowsCells_30 : rowsCells[30]? = some (.int .i64 3) := by kernel_rfl
@[go_sem] theorem rowsCells_31 : rowsCells[31]? = some (.func (.func 100) #[] #[]) := by kernel_rfl
@[go_sem] theorem rowsCells_32 : rowsCells[32]? = some (.int .i64 2) := by kernel_rfl
@[go_sem] theorem rowsCells_33 : rowsCells[33]? = some (.func (.func 101) #[] #[]) := by kernel_rfl
@[go_sem] theorem rowsCells_34 : rowsCells[34]? = some (.int .i64 2) := by kernel_rfl
@[go_sem] theorem rowsCells_35 : rowsCells[35]? = some (.func (.func 102) #[] #[]) := by kernel_rfl
@[go_sem] theorem rowsCells_36 : rowsCells[36]? = some (.int .i64 2) := by kernel_rfl
@[go_sem] theorem rowsCells_37 : rowsCells[37]? = some (.func (.func 103) #[] #[]) := by kernel_rfl
@[go_sem] theorem rowsCells_38 : rowsCells[38]? = some (.int .i64 2) := by kernel_rfl
@[go_sem] theorem rowsCells_39 : rowsCells[39]? = some (.func (.func 104) #[] #[]) := by kernel_rfl
@[go_sem] theorem eqlDo (f : FuncId) (w : World) : Sem.run Try.prog (binOp .eql 139 (.func (.func f) #[] #[]) .nilFunc) w = .ok (.bool false) w := by kernel_rfl
@[go_sem] theorem eqlNil (w : World) : Sem.run Try.prog (binOp .eql 139 .nilFunc .nilFunc) w = .ok (.bool true) w := by kernel_rfl
theorem bvRows_any (w : World) :
    Calls Try.prog 84 #[] w fun e w' => e = .returned (.agg rowsCells) ∧ Ext w w' := by
  go_enter Try.func84, Try.ntmps84
  go_wp2_with (refine wpList_store_last rfl 142 (.tmp 0) (.tmp 18) rfl _ _ _ _ rfl rfl rfl (by kernel_rfl) (by kernel_rfl) (by kernel_rfl) ?_)
  exact bodyPost_ret (v := .agg rowsCells) (results_cell_row rfl _ _ _ _ _ _ _ rfl (heap_alloc_last _ _) Try.underlying142 rfl (by kernel_rfl)) rfl ⟨rfl, (Ext.refl _).alloc _⟩


set_option maxHeartbeats 1000000 in
theorem bvBin_no1 (k a b : Int) (op : Int) (h : isk k a = false) (w : World) :
    Calls Try.prog 81 #[.int .i64 op, .int .i64 k, .int .i64 a, .int .i64 b] w fun e w' => e = .returned (.tuple #[.int .i64 0, .int .i64 0, .bool false]) ∧ Ext w w' := by
  go_enter Try.func81, Try.ntmps81
  go_wp2_with (first
    | (go_at_call 84; refine (bvRows_any _).mono ?_; rintro e w1 ⟨rfl, hx⟩; (first | (with_reducible obtain ⟨t0, rfl⟩ := Ext.tok2 hx) | (obtain ⟨t0, rfl⟩ := Ext.tok hx)))
    | (go_at_call 47; refine (bvIs_any _ _ _).mono ?_; rintro e w1 ⟨rfl, rfl⟩)
    | (go_at_call 85; refine (bvFits_any _ _ _).mono ?_; rintro e w1 ⟨rfl, rfl⟩)
    | (refine wpList_store_last rfl 142 (.tmp 11) (.tmp 15) rfl _ _ _ _ rfl rfl (by simp) (by kernel_rfl) (by kernel_rfl) (by kernel_rfl) ?_))
  go_ret3
  exact ⟨rfl, (by repeat first | exact Ext.refl _ | assumption | refine Ext.drew ?_ | refine Ext.drewN ?_ _ | refine Ext.extBy ?_ _ | refine Ext.alloc ?_ _ | refine Ext.setCell ?_ (by simp; try omega) _ | (refine Ext.trans ?_ (by assumption)))⟩


set_option maxHeartbeats 1000000 in
theorem bvBin_no2 (k a b : Int) (op : Int) (h1 : isk k a = true) (h : isk k b = false) (w : World) :
    Calls Try.prog 81 #[.int .i64 op, .int .i64 k, .int .i64 a, .int .i64 b] w fun e w' => e = .returned (.tuple #[.int .i64 0, .int .i64 0, .bool false]) ∧ Ext w w' := by
  go_enter Try.func81, Try.ntmps81
  go_wp2_with (first
    | (go_at_call 84; refine (bvRows_any _).mono ?_; rintro e w1 ⟨rfl, hx⟩; (first | (with_reducible obtain ⟨t0, rfl⟩ := Ext.tok2 hx) | (obtain ⟨t0, rfl⟩ := Ext.tok hx)))
    | (go_at_call 47; refine (bvIs_any _ _ _).mono ?_; rintro e w1 ⟨rfl, rfl⟩)
    | (go_at_call 85; refine (bvFits_any _ _ _).mono ?_; rintro e w1 ⟨rfl, rfl⟩)
    | (refine wpList_store_last rfl 142 (.tmp 11) (.tmp 15) rfl _ _ _ _ rfl rfl (by simp) (by kernel_rfl) (by kernel_rfl) (by kernel_rfl) ?_))
  go_ret3
  exact ⟨rfl, (by repeat first | exact Ext.refl _ | assumption | refine Ext.drew ?_ | refine Ext.drewN ?_ _ | refine Ext.extBy ?_ _ | refine Ext.alloc ?_ _ | refine Ext.setCell ?_ (by simp; try omega) _ | (refine Ext.trans ?_ (by assumption)))⟩


set_option maxHeartbeats 1000000 in
theorem bvBin_no3 (k a b : Int) (op : Int) (h1 : isk k a = true) (h2 : isk k b = true) (h : op < 0) (w : World) :
    Calls Try.prog 81 #[.int .i64 op, .int .i64 k, .int .i64 a, .int .i64 b] w fun e w' => e = .returned (.tuple #[.int .i64 0, .int .i64 0, .bool false]) ∧ Ext w w' := by
  go_enter Try.func81, Try.ntmps81
  go_wp2_with (first
    | (go_at_call 84; refine (bvRows_any _).mono ?_; rintro e w1 ⟨rfl, hx⟩; (first | (with_reducible obtain ⟨t0, rfl⟩ := Ext.tok2 hx) | (obtain ⟨t0, rfl⟩ := Ext.tok hx)))
    | (go_at_call 47; refine (bvIs_any _ _ _).mono ?_; rintro e w1 ⟨rfl, rfl⟩)
    | (go_at_call 85; refine (bvFits_any _ _ _).mono ?_; rintro e w1 ⟨rfl, rfl⟩)
    | (refine wpList_store_last rfl 142 (.tmp 11) (.tmp 15) rfl _ _ _ _ rfl rfl (by simp) (by kernel_rfl) (by kernel_rfl) (by kernel_rfl) ?_))
  go_ret3
  exact ⟨rfl, (by repeat first | exact Ext.refl _ | assumption | refine Ext.drew ?_ | refine Ext.drewN ?_ _ | refine Ext.extBy ?_ _ | refine Ext.alloc ?_ _ | refine Ext.setCell ?_ (by simp; try omega) _ | (refine Ext.trans ?_ (by assumption)))⟩


set_option maxHeartbeats 1000000 in
theorem bvBin_no4 (k a b : Int) (op : Int) (h1 : isk k a = true) (h2 : isk k b = true) (h3 : ¬ op < 0) (h : 20 ≤ op) (w : World) :
    Calls Try.prog 81 #[.int .i64 op, .int .i64 k, .int .i64 a, .int .i64 b] w fun e w' => e = .returned (.tuple #[.int .i64 0, .int .i64 0, .bool false]) ∧ Ext w w' := by
  go_enter Try.func81, Try.ntmps81
  go_wp2_with (first
    | (go_at_call 84; refine (bvRows_any _).mono ?_; rintro e w1 ⟨rfl, hx⟩; (first | (with_reducible obtain ⟨t0, rfl⟩ := Ext.tok2 hx) | (obtain ⟨t0, rfl⟩ := Ext.tok hx)))
    | (go_at_call 47; refine (bvIs_any _ _ _).mono ?_; rintro e w1 ⟨rfl, rfl⟩)
    | (go_at_call 85; refine (bvFits_any _ _ _).mono ?_; rintro e w1 ⟨rfl, rfl⟩)
    | (refine wpList_store_last rfl 142 (.tmp 11) (.tmp 15) rfl _ _ _ _ rfl rfl (by simp) (by kernel_rfl) (by kernel_rfl) (by kernel_rfl) ?_))
  go_ret3
  exact ⟨rfl, (by repeat first | exact Ext.refl _ | assumption | refine Ext.drew ?_ | refine Ext.drewN ?_ _ | refine Ext.extBy ?_ _ | refine Ext.alloc ?_ _ | refine Ext.setCell ?_ (by simp; try omega) _ | (refine Ext.trans ?_ (by assumption)))⟩


set_option maxHeartbeats 1000000 in
theorem bvBin_nil0 (k a b : Int) (h1 : isk k a = true) (h2 : isk k b = true) (w : World) :
    Calls Try.prog 81 #[.int .i64 0, .int .i64 k, .int .i64 a, .int .i64 b] w fun e w' => e = .returned (.tuple #[.int .i64 0, .int .i64 0, .bool false]) ∧ Ext w w' := by
  go_enter Try.func81, Try.ntmps81
  go_wp2_with (first
    | (go_at_call 84; refine (bvRows_any _).mono ?_; rintro e w1 ⟨rfl, hx⟩; (first | (with_reducible obtain ⟨t0, rfl⟩ := Ext.tok2 hx) | (obtain ⟨t0, rfl⟩ := Ext.tok hx)))
    | (go_at_call 47; refine (bvIs_any _ _ _).mono ?_; rintro e w1 ⟨rfl, rfl⟩)
    | (go_at_call 85; refine (bvFits_any _ _ _).mono ?_; rintro e w1 ⟨rfl, rfl⟩)
    | (refine wpList_store_last rfl 142 (.tmp 11) (.tmp 15) rfl _ _ _ _ rfl rfl (by simp) (by kernel_rfl) (by kernel_rfl) (by kernel_rfl) ?_))
  go_ret3
  exact ⟨rfl, (by repeat first | exact Ext.refl _ | assumption | refine Ext.drew ?_ | refine Ext.drewN ?_ _ | refine Ext.extBy ?_ _ | refine Ext.alloc ?_ _ | refine Ext.setCell ?_ (by simp; try omega) _ | (refine Ext.trans ?_ (by assumption)))⟩


set_option maxHeartbeats 1000000 in
theorem bvBin_nil1 (k a b : Int) (h1 : isk k a = true) (h2 : isk k b = true) (w : World) :
    Calls Try.prog 81 #[.int .i64 1, .int .i64 k, .int .i64 a, .int .i64 b] w fun e w' => e = .returned (.tuple #[.int .i64 0, .int .i64 0, .bool false]) ∧ Ext w w' := by
  go_enter Try.func81, Try.ntmps81
  go_wp2_with (first
    | (go_at_call 84; refine (bvRows_any _).mono ?_; rintro e w1 ⟨rfl, hx⟩; (first | (with_reducible obtain ⟨t0, rfl⟩ := Ext.tok2 hx) | (obtain ⟨t0, rfl⟩ := Ext.tok hx)))
    | (go_at_call 47; refine (bvIs_any _ _ _).mono ?_; rintro e w1 ⟨rfl, rfl⟩)
    | (go_at_call 85; refine (bvFits_any _ _ _).mono ?_; rintro e w1 ⟨rfl, rfl⟩)
    | (refine wpList_store_last rfl 142 (.tmp 11) (.tmp 15) rfl _ _ _ _ rfl rfl (by simp) (by kernel_rfl) (by kernel_rfl) (by kernel_rfl) ?_))
  go_ret3
  exact ⟨rfl, (by repeat first | exact Ext.refl _ | assumption | refine Ext.drew ?_ | refine Ext.drewN ?_ _ | refine Ext.extBy ?_ _ | refine Ext.alloc ?_ _ | refine Ext.setCell ?_ (by simp; try omega) _ | (refine Ext.trans ?_ (by assumption)))⟩


set_option maxHeartbeats 1000000 in
theorem bvBin_nil2 (k a b : Int) (h1 : isk k a = true) (h2 : isk k b = true) (w : World) :
    Calls Try.prog 81 #[.int .i64 2, .int .i64 k, .int .i64 a, .int .i64 b] w fun e w' => e = .returned (.tuple #[.int .i64 0, .int .i64 0, .bool false]) ∧ Ext w w' := by
  go_enter Try.func81, Try.ntmps81
  go_wp2_with (first
    | (go_at_call 84; refine (bvRows_any _).mono ?_; rintro e w1 ⟨rfl, hx⟩; (first | (with_reducible obtain ⟨t0, rfl⟩ := Ext.tok2 hx) | (obtain ⟨t0, rfl⟩ := Ext.tok hx)))
    | (go_at_call 47; refine (bvIs_any _ _ _).mono ?_; rintro e w1 ⟨rfl, rfl⟩)
    | (go_at_call 85; refine (bvFits_any _ _ _).mono ?_; rintro e w1 ⟨rfl, rfl⟩)
    | (refine wpList_store_last rfl 142 (.tmp 11) (.tmp 15) rfl _ _ _ _ rfl rfl (by simp) (by kernel_rfl) (by kernel_rfl) (by kernel_rfl) ?_))
  go_ret3
  exact ⟨rfl, (by repeat first | exact Ext.refl _ | assumption | refine Ext.drew ?_ | refine Ext.drewN ?_ _ | refine Ext.extBy ?_ _ | refine Ext.alloc ?_ _ | refine Ext.setCell ?_ (by simp; try omega) _ | (refine Ext.trans ?_ (by assumption)))⟩


set_option maxHeartbeats 1000000 in
theorem bvBin_bad3 (k a b : Int) (h1 : isk k a = true) (h2 : isk k b = true) (h : fitsv 2 k = false) (w : World) :
    Calls Try.prog 81 #[.int .i64 3, .int .i64 k, .int .i64 a, .int .i64 b] w fun e w' => e = .returned (.tuple #[.int .i64 0, .int .i64 0, .bool false]) ∧ Ext w w' := by
  go_enter Try.func81, Try.ntmps81
  go_wp2_with (first
    | (go_at_call 84; refine (bvRows_any _).mono ?_; rintro e w1 ⟨rfl, hx⟩; (first | (with_reducible obtain ⟨t0, rfl⟩ := Ext.tok2 hx) | (obtain ⟨t0, rfl⟩ := Ext.tok hx)))
    | (go_at_call 47; refine (bvIs_any _ _ _).mono ?_; rintro e w1 ⟨rfl, rfl⟩)
    | (go_at_call 85; refine (bvFits_any _ _ _).mono ?_; rintro e w1 ⟨rfl, rfl⟩)
    | (refine wpList_store_last rfl 142 (.tmp 11) (.tmp 15) rfl _ _ _ _ rfl rfl (by simp) (by kernel_rfl) (by kernel_rfl) (by kernel_rfl) ?_))
  go_ret3
  exact ⟨rfl, (by repeat first | exact Ext.refl _ | assumption | refine Ext.drew ?_ | refine Ext.drewN ?_ _ | refine Ext.extBy ?_ _ | refine Ext.alloc ?_ _ | refine Ext.setCell ?_ (by simp; try omega) _ | (refine Ext.trans ?_ (by assumption)))⟩


set_option maxHeartbeats 1000000 in
theorem bvBin_bad4 (k a b : Int) (h1 : isk k a = true) (h2 : isk k b = true) (h : fitsv 2 k = false) (w : World) :
    Calls Try.prog 81 #[.int .i64 4, .int .i64 k, .int .i64 a, .int .i64 b] w fun e w' => e = .returned (.tuple #[.int .i64 0, .int .i64 0, .bool false]) ∧ Ext w w' := by
  go_enter Try.func81, Try.ntmps81
  go_wp2_with (first
    | (go_at_call 84; refine (bvRows_any _).mono ?_; rintro e w1 ⟨rfl, hx⟩; (first | (with_reducible obtain ⟨t0, rfl⟩ := Ext.tok2 hx) | (obtain ⟨t0, rfl⟩ := Ext.tok hx)))
    | (go_at_call 47; refine (bvIs_any _ _ _).mono ?_; rintro e w1 ⟨rfl, rfl⟩)
    | (go_at_call 85; refine (bvFits_any _ _ _).mono ?_; rintro e w1 ⟨rfl, rfl⟩)
    | (refine wpList_store_last rfl 142 (.tmp 11) (.tmp 15) rfl _ _ _ _ rfl rfl (by simp) (by kernel_rfl) (by kernel_rfl) (by kernel_rfl) ?_))
  go_ret3
  exact ⟨rfl, (by repeat first | exact Ext.refl _ | assumption | refine Ext.drew ?_ | refine Ext.drewN ?_ _ | refine Ext.extBy ?_ _ | refine Ext.alloc ?_ _ | refine Ext.setCell ?_ (by simp; try omega) _ | (refine Ext.trans ?_ (by assumption)))⟩


set_option maxHeartbeats 1000000 in
theorem bvBin_bad5 (k a b : Int) (h1 : isk k a = true) (h2 : isk k b = true) (h : fitsv 2 k = false) (w : World) :
    Calls Try.prog 81 #[.int .i64 5, .int .i64 k, .int .i64 a, .int .i64 b] w fun e w' => e = .returned (.tuple #[.int .i64 0, .int .i64 0, .bool false]) ∧ Ext w w' := by
  go_enter Try.func81, Try.ntmps81
  go_wp2_with (first
    | (go_at_call 84; refine (bvRows_any _).mono ?_; rintro e w1 ⟨rfl, hx⟩; (first | (with_reducible obtain ⟨t0, rfl⟩ := Ext.tok2 hx) | (obtain ⟨t0, rfl⟩ := Ext.tok hx)))
    | (go_at_call 47; refine (bvIs_any _ _ _).mono ?_; rintro e w1 ⟨rfl, rfl⟩)
    | (go_at_call 85; refine (bvFits_any _ _ _).mono ?_; rintro e w1 ⟨rfl, rfl⟩)
    | (refine wpList_store_last rfl 142 (.tmp 11) (.tmp 15) rfl _ _ _ _ rfl rfl (by simp) (by kernel_rfl) (by kernel_rfl) (by kernel_rfl) ?_))
  go_ret3
  exact ⟨rfl, (by repeat first | exact Ext.refl _ | assumption | refine Ext.drew ?_ | refine Ext.drewN ?_ _ | refine Ext.extBy ?_ _ | refine Ext.alloc ?_ _ | refine Ext.setCell ?_ (by simp; try omega) _ | (refine Ext.trans ?_ (by assumption)))⟩


set_option maxHeartbeats 1000000 in
theorem bvBin_bad6 (k a b : Int) (h1 : isk k a = true) (h2 : isk k b = true) (h : fitsv 2 k = false) (w : World) :
    Calls Try.prog 81 #[.int .i64 6, .int .i64 k, .int .i64 a, .int .i64 b] w fun e w' => e = .returned (.tuple #[.int .i64 0, .int .i64 0, .bool false]) ∧ Ext w w' := by
  go_enter Try.func81, Try.ntmps81
  go_wp2_with (first
    | (go_at_call 84; refine (bvRows_any _).mono ?_; rintro e w1 ⟨rfl, hx⟩; (first | (with_reducible obtain ⟨t0, rfl⟩ := Ext.tok2 hx) | (obtain ⟨t0, rfl⟩ := Ext.tok hx)))
    | (go_at_call 47; refine (bvIs_any _ _ _).mono ?_; rintro e w1 ⟨rfl, rfl⟩)
    | (go_at_call 85; refine (bvFits_any _ _ _).mono ?_; rintro e w1 ⟨rfl, rfl⟩)
    | (refine wpList_store_last rfl 142 (.tmp 11) (.tmp 15) rfl _ _ _ _ rfl rfl (by simp) (by kernel_rfl) (by kernel_rfl) (by kernel_rfl) ?_))
  go_ret3
  exact ⟨rfl, (by repeat first | exact Ext.refl _ | assumption | refine Ext.drew ?_ | refine Ext.drewN ?_ _ | refine Ext.extBy ?_ _ | refine Ext.alloc ?_ _ | refine Ext.setCell ?_ (by simp; try omega) _ | (refine Ext.trans ?_ (by assumption)))⟩


set_option maxHeartbeats 1000000 in
theorem bvBin_bad7 (k a b : Int) (h1 : isk k a = true) (h2 : isk k b = true) (h : fitsv 2 k = false) (w : World) :
    Calls Try.prog 81 #[.int .i64 7, .int .i64 k, .int .i64 a, .int .i64 b] w fun e w' => e = .returned (.tuple #[.int .i64 0, .int .i64 0, .bool false]) ∧ Ext w w' := by
  go_enter Try.func81, Try.ntmps81
  go_wp2_with (first
    | (go_at_call 84; refine (bvRows_any _).mono ?_; rintro e w1 ⟨rfl, hx⟩; (first | (with_reducible obtain ⟨t0, rfl⟩ := Ext.tok2 hx) | (obtain ⟨t0, rfl⟩ := Ext.tok hx)))
    | (go_at_call 47; refine (bvIs_any _ _ _).mono ?_; rintro e w1 ⟨rfl, rfl⟩)
    | (go_at_call 85; refine (bvFits_any _ _ _).mono ?_; rintro e w1 ⟨rfl, rfl⟩)
    | (refine wpList_store_last rfl 142 (.tmp 11) (.tmp 15) rfl _ _ _ _ rfl rfl (by simp) (by kernel_rfl) (by kernel_rfl) (by kernel_rfl) ?_))
  go_ret3
  exact ⟨rfl, (by repeat first | exact Ext.refl _ | assumption | refine Ext.drew ?_ | refine Ext.drewN ?_ _ | refine Ext.extBy ?_ _ | refine Ext.alloc ?_ _ | refine Ext.setCell ?_ (by simp; try omega) _ | (refine Ext.trans ?_ (by assumption)))⟩


set_option maxHeartbeats 1000000 in
theorem bvBin_bad8 (k a b : Int) (h1 : isk k a = true) (h2 : isk k b = true) (h : fitsv 3 k = false) (w : World) :
    Calls Try.prog 81 #[.int .i64 8, .int .i64 k, .int .i64 a, .int .i64 b] w fun e w' => e = .returned (.tuple #[.int .i64 0, .int .i64 0, .bool false]) ∧ Ext w w' := by
  go_enter Try.func81, Try.ntmps81
  go_wp2_with (first
    | (go_at_call 84; refine (bvRows_any _).mono ?_; rintro e w1 ⟨rfl, hx⟩; (first | (with_reducible obtain ⟨t0, rfl⟩ := Ext.tok2 hx) | (obtain ⟨t0, rfl⟩ := Ext.tok hx)))
    | (go_at_call 47; refine (bvIs_any _ _ _).mono ?_; rintro e w1 ⟨rfl, rfl⟩)
    | (go_at_call 85; refine (bvFits_any _ _ _).mono ?_; rintro e w1 ⟨rfl, rfl⟩)
    | (refine wpList_store_last rfl 142 (.tmp 11) (.tmp 15) rfl _ _ _ _ rfl rfl (by simp) (by kernel_rfl) (by kernel_rfl) (by kernel_rfl) ?_))
  go_ret3
  exact ⟨rfl, (by repeat first | exact Ext.refl _ | assumption | refine Ext.drew ?_ | refine Ext.drewN ?_ _ | refine Ext.extBy ?_ _ | refine Ext.alloc ?_ _ | refine Ext.setCell ?_ (by simp; try omega) _ | (refine Ext.trans ?_ (by assumption)))⟩


set_option maxHeartbeats 1000000 in
theorem bvBin_bad9 (k a b : Int) (h1 : isk k a = true) (h2 : isk k b = true) (h : fitsv 3 k = false) (w : World) :
    Calls Try.prog 81 #[.int .i64 9, .int .i64 k, .int .i64 a, .int .i64 b] w fun e w' => e = .returned (.tuple #[.int .i64 0, .int .i64 0, .bool false]) ∧ Ext w w' := by
  go_enter Try.func81, Try.ntmps81
  go_wp2_with (first
    | (go_at_call 84; refine (bvRows_any _).mono ?_; rintro e w1 ⟨rfl, hx⟩; (first | (with_reducible obtain ⟨t0, rfl⟩ := Ext.tok2 hx) | (obtain ⟨t0, rfl⟩ := Ext.tok hx)))
    | (go_at_call 47; refine (bvIs_any _ _ _).mono ?_; rintro e w1 ⟨rfl, rfl⟩)
    | (go_at_call 85; refine (bvFits_any _ _ _).mono ?_; rintro e w1 ⟨rfl, rfl⟩)
    | (refine wpList_store_last rfl 142 (.tmp 11) (.tmp 15) rfl _ _ _ _ rfl rfl (by simp) (by kernel_rfl) (by kernel_rfl) (by kernel_rfl) ?_))
  go_ret3
  exact ⟨rfl, (by repeat first | exact Ext.refl _ | assumption | refine Ext.drew ?_ | refine Ext.drewN ?_ _ | refine Ext.extBy ?_ _ | refine Ext.alloc ?_ _ | refine Ext.setCell ?_ (by simp; try omega) _ | (refine Ext.trans ?_ (by assumption)))⟩


set_option maxHeartbeats 1000000 in
theorem bvBin_bad10 (k a b : Int) (h1 : isk k a = true) (h2 : isk k b = true) (h : fitsv 3 k = false) (w : World) :
    Calls Try.prog 81 #[.int .i64 10, .int .i64 k, .int .i64 a, .int .i64 b] w fun e w' => e = .returned (.tuple #[.int .i64 0, .int .i64 0, .bool false]) ∧ Ext w w' := by
  go_enter Try.func81, Try.ntmps81
  go_wp2_with (first
    | (go_at_call 84; refine (bvRows_any _).mono ?_; rintro e w1 ⟨rfl, hx⟩; (first | (with_reducible obtain ⟨t0, rfl⟩ := Ext.tok2 hx) | (obtain ⟨t0, rfl⟩ := Ext.tok hx)))
    | (go_at_call 47; refine (bvIs_any _ _ _).mono ?_; rintro e w1 ⟨rfl, rfl⟩)
    | (go_at_call 85; refine (bvFits_any _ _ _).mono ?_; rintro e w1 ⟨rfl, rfl⟩)
    | (refine wpList_store_last rfl 142 (.tmp 11) (.tmp 15) rfl _ _ _ _ rfl rfl (by simp) (by kernel_rfl) (by kernel_rfl) (by kernel_rfl) ?_))
  go_ret3
  exact ⟨rfl, (by repeat first | exact Ext.refl _ | assumption | refine Ext.drew ?_ | refine Ext.drewN ?_ _ | refine Ext.extBy ?_ _ | refine Ext.alloc ?_ _ | refine Ext.setCell ?_ (by simp; try omega) _ | (refine Ext.trans ?_ (by assumption)))⟩


set_option maxHeartbeats 1000000 in
theorem bvBin_bad11 (k a b : Int) (h1 : isk k a = true) (h2 : isk k b = true) (h : fitsv 1 k = false) (w : World) :
    Calls Try.prog 81 #[.int .i64 11, .int .i64 k, .int .i64 a, .int .i64 b] w fun e w' => e = .returned (.tuple #[.int .i64 0, .int .i64 0, .bool false]) ∧ Ext w w' := by
  go_enter Try.func81, Try.ntmps81
  go_wp2_with (first
    | (go_at_call 84; refine (bvRows_any _).mono ?_; rintro e w1 ⟨rfl, hx⟩; (first | (with_reducible obtain ⟨t0, rfl⟩ := Ext.tok2 hx) | (obtain ⟨t0, rfl⟩ := Ext.tok hx)))
    | (go_at_call 47; refine (bvIs_any _ _ _).mono ?_; rintro e w1 ⟨rfl, rfl⟩)
    | (go_at_call 85; refine (bvFits_any _ _ _).mono ?_; rintro e w1 ⟨rfl, rfl⟩)
    | (refine wpList_store_last rfl 142 (.tmp 11) (.tmp 15) rfl _ _ _ _ rfl rfl (by simp) (by kernel_rfl) (by kernel_rfl) (by kernel_rfl) ?_))
  go_ret3
  exact ⟨rfl, (by repeat first | exact Ext.refl _ | assumption | refine Ext.drew ?_ | refine Ext.drewN ?_ _ | refine Ext.extBy ?_ _ | refine Ext.alloc ?_ _ | refine Ext.setCell ?_ (by simp; try omega) _ | (refine Ext.trans ?_ (by assumption)))⟩


set_option maxHeartbeats 1000000 in
theorem bvBin_bad12 (k a b : Int) (h1 : isk k a = true) (h2 : isk k b = true) (h : fitsv 2 k = false) (w : World) :
    Calls Try.prog 81 #[.int .i64 12, .int .i64 k, .int .i64 a, .int .i64 b] w fun e w' => e = .returned (.tuple #[.int .i64 0, .int .i64 0, .bool false]) ∧ Ext w w' := by
  go_enter Try.func81, Try.ntmps81
  go_wp2_with (first
    | (go_at_call 84; refine (bvRows_any _).mono ?_; rintro e w1 ⟨rfl, hx⟩; (first | (with_reducible obtain ⟨t0, rfl⟩ := Ext.tok2 hx) | (obtain ⟨t0, rfl⟩ := Ext.tok hx)))
    | (go_at_call 47; refine (bvIs_any _ _ _).mono ?_; rintro e w1 ⟨rfl, rfl⟩)
    | (go_at_call 85; refine (bvFits_any _ _ _).mono ?_; rintro e w1 ⟨rfl, rfl⟩)
    | (refine wpList_store_last rfl 142 (.tmp 11) (.tmp 15) rfl _ _ _ _ rfl rfl (by simp) (by kernel_rfl) (by kernel_rfl) (by kernel_rfl) ?_))
  go_ret3
  exact ⟨rfl, (by repeat first | exact Ext.refl _ | assumption | refine Ext.drew ?_ | refine Ext.drewN ?_ _ | refine Ext.extBy ?_ _ | refine Ext.alloc ?_ _ | refine Ext.setCell ?_ (by simp; try omega) _ | (refine Ext.trans ?_ (by assumption)))⟩


set_option maxHeartbeats 1000000 in
theorem bvBin_bad13 (k a b : Int) (h1 : isk k a = true) (h2 : isk k b = true) (h : fitsv 2 k = false) (w : World) :
    Calls Try.prog 81 #[.int .i64 13, .int .i64 k, .int .i64 a, .int .i64 b] w fun e w' => e = .returned (.tuple #[.int .i64 0, .int .i64 0, .bool false]) ∧ Ext w w' := by
  go_enter Try.func81, Try.ntmps81
  go_wp2_with (first
    | (go_at_call 84; refine (bvRows_any _).mono ?_; rintro e w1 ⟨rfl, hx⟩; (first | (with_reducible obtain ⟨t0, rfl⟩ := Ext.tok2 hx) | (obtain ⟨t0, rfl⟩ := Ext.tok hx)))
    | (go_at_call 47; refine (bvIs_any _ _ _).mono ?_; rintro e w1 ⟨rfl, rfl⟩)
    | (go_at_call 85; refine (bvFits_any _ _ _).mono ?_; rintro e w1 ⟨rfl, rfl⟩)
    | (refine wpList_store_last rfl 142 (.tmp 11) (.tmp 15) rfl _ _ _ _ rfl rfl (by simp) (by kernel_rfl) (by kernel_rfl) (by kernel_rfl) ?_))
  go_ret3
  exact ⟨rfl, (by repeat first | exact Ext.refl _ | assumption | refine Ext.drew ?_ | refine Ext.drewN ?_ _ | refine Ext.extBy ?_ _ | refine Ext.alloc ?_ _ | refine Ext.setCell ?_ (by simp; try omega) _ | (refine Ext.trans ?_ (by assumption)))⟩


set_option maxHeartbeats 1000000 in
theorem bvBin_bad14 (k a b : Int) (h1 : isk k a = true) (h2 : isk k b = true) (h : fitsv 3 k = false) (w : World) :
    Calls Try.prog 81 #[.int .i64 14, .int .i64 k, .int .i64 a, .int .i64 b] w fun e w' => e = .returned (.tuple #[.int .i64 0, .int .i64 0, .bool false]) ∧ Ext w w' := by
  go_enter Try.func81, Try.ntmps81
  go_wp2_with (first
    | (go_at_call 84; refine (bvRows_any _).mono ?_; rintro e w1 ⟨rfl, hx⟩; (first | (with_reducible obtain ⟨t0, rfl⟩ := Ext.tok2 hx) | (obtain ⟨t0, rfl⟩ := Ext.tok hx)))
    | (go_at_call 47; refine (bvIs_any _ _ _).mono ?_; rintro e w1 ⟨rfl, rfl⟩)
    | (go_at_call 85; refine (bvFits_any _ _ _).mono ?_; rintro e w1 ⟨rfl, rfl⟩)
    | (refine wpList_store_last rfl 142 (.tmp 11) (.tmp 15) rfl _ _ _ _ rfl rfl (by simp) (by kernel_rfl) (by kernel_rfl) (by kernel_rfl) ?_))
  go_ret3
  exact ⟨rfl, (by repeat first | exact Ext.refl _ | assumption | refine Ext.drew ?_ | refine Ext.drewN ?_ _ | refine Ext.extBy ?_ _ | refine Ext.alloc ?_ _ | refine Ext.setCell ?_ (by simp; try omega) _ | (refine Ext.trans ?_ (by assumption)))⟩


set_option maxHeartbeats 1000000 in
theorem bvBin_bad15 (k a b : Int) (h1 : isk k a = true) (h2 : isk k b = true) (h : fitsv 3 k = false) (w : World) :
    Calls Try.prog 81 #[.int .i64 15, .int .i64 k, .int .i64 a, .int .i64 b] w fun e w' => e = .returned (.tuple #[.int .i64 0, .int .i64 0, .bool false]) ∧ Ext w w' := by
  go_enter Try.func81, Try.ntmps81
  go_wp2_with (first
    | (go_at_call 84; refine (bvRows_any _).mono ?_; rintro e w1 ⟨rfl, hx⟩; (first | (with_reducible obtain ⟨t0, rfl⟩ := Ext.tok2 hx) | (obtain ⟨t0, rfl⟩ := Ext.tok hx)))
    | (go_at_call 47; refine (bvIs_any _ _ _).mono ?_; rintro e w1 ⟨rfl, rfl⟩)
    | (go_at_call 85; refine (bvFits_any _ _ _).mono ?_; rintro e w1 ⟨rfl, rfl⟩)
    | (refine wpList_store_last rfl 142 (.tmp 11) (.tmp 15) rfl _ _ _ _ rfl rfl (by simp) (by kernel_rfl) (by kernel_rfl) (by kernel_rfl) ?_))
  go_ret3
  exact ⟨rfl, (by repeat first | exact Ext.refl _ | assumption | refine Ext.drew ?_ | refine Ext.drewN ?_ _ | refine Ext.extBy ?_ _ | refine Ext.alloc ?_ _ | refine Ext.setCell ?_ (by simp; try omega) _ | (refine Ext.trans ?_ (by assumption)))⟩


set_option maxHeartbeats 1000000 in
theorem bvBin_bad16 (k a b : Int) (h1 : isk k a = true) (h2 : isk k b = true) (h : fitsv 2 k = false) (w : World) :
    Calls Try.prog 81 #[.int .i64 16, .int .i64 k, .int .i64 a, .int .i64 b] w fun e w' => e = .returned (.tuple #[.int .i64 0, .int .i64 0, .bool false]) ∧ Ext w w' := by
  go_enter Try.func81, Try.ntmps81
  go_wp2_with (first
    | (go_at_call 84; refine (bvRows_any _).mono ?_; rintro e w1 ⟨rfl, hx⟩; (first | (with_reducible obtain ⟨t0, rfl⟩ := Ext.tok2 hx) | (obtain ⟨t0, rfl⟩ := Ext.tok hx)))
    | (go_at_call 47; refine (bvIs_any _ _ _).mono ?_; rintro e w1 ⟨rfl, rfl⟩)
    | (go_at_call 85; refine (bvFits_any _ _ _).mono ?_; rintro e w1 ⟨rfl, rfl⟩)
    | (refine wpList_store_last rfl 142 (.tmp 11) (.tmp 15) rfl _ _ _ _ rfl rfl (by simp) (by kernel_rfl) (by kernel_rfl) (by kernel_rfl) ?_))
  go_ret3
  exact ⟨rfl, (by repeat first | exact Ext.refl _ | assumption | refine Ext.drew ?_ | refine Ext.drewN ?_ _ | refine Ext.extBy ?_ _ | refine Ext.alloc ?_ _ | refine Ext.setCell ?_ (by simp; try omega) _ | (refine Ext.trans ?_ (by assumption)))⟩


set_option maxHeartbeats 1000000 in
theorem bvBin_bad17 (k a b : Int) (h1 : isk k a = true) (h2 : isk k b = true) (h : fitsv 2 k = false) (w : World) :
    Calls Try.prog 81 #[.int .i64 17, .int .i64 k, .int .i64 a, .int .i64 b] w fun e w' => e = .returned (.tuple #[.int .i64 0, .int .i64 0, .bool false]) ∧ Ext w w' := by
  go_enter Try.func81, Try.ntmps81
  go_wp2_with (first
    | (go_at_call 84; refine (bvRows_any _).mono ?_; rintro e w1 ⟨rfl, hx⟩; (first | (with_reducible obtain ⟨t0, rfl⟩ := Ext.tok2 hx) | (obtain ⟨t0, rfl⟩ := Ext.tok hx)))
    | (go_at_call 47; refine (bvIs_any _ _ _).mono ?_; rintro e w1 ⟨rfl, rfl⟩)
    | (go_at_call 85; refine (bvFits_any _ _ _).mono ?_; rintro e w1 ⟨rfl, rfl⟩)
    | (refine wpList_store_last rfl 142 (.tmp 11) (.tmp 15) rfl _ _ _ _ rfl rfl (by simp) (by kernel_rfl) (by kernel_rfl) (by kernel_rfl) ?_))
  go_ret3
  exact ⟨rfl, (by repeat first | exact Ext.refl _ | assumption | refine Ext.drew ?_ | refine Ext.drewN ?_ _ | refine Ext.extBy ?_ _ | refine Ext.alloc ?_ _ | refine Ext.setCell ?_ (by simp; try omega) _ | (refine Ext.trans ?_ (by assumption)))⟩


set_option maxHeartbeats 1000000 in
theorem bvBin_bad18 (k a b : Int) (h1 : isk k a = true) (h2 : isk k b = true) (h : fitsv 2 k = false) (w : World) :
    Calls Try.prog 81 #[.int .i64 18, .int .i64 k, .int .i64 a, .int .i64 b] w fun e w' => e = .returned (.tuple #[.int .i64 0, .int .i64 0, .bool false]) ∧ Ext w w' := by
  go_enter Try.func81, Try.ntmps81
  go_wp2_with (first
    | (go_at_call 84; refine (bvRows_any _).mono ?_; rintro e w1 ⟨rfl, hx⟩; (first | (with_reducible obtain ⟨t0, rfl⟩ := Ext.tok2 hx) | (obtain ⟨t0, rfl⟩ := Ext.tok hx)))
    | (go_at_call 47; refine (bvIs_any _ _ _).mono ?_; rintro e w1 ⟨rfl, rfl⟩)
    | (go_at_call 85; refine (bvFits_any _ _ _).mono ?_; rintro e w1 ⟨rfl, rfl⟩)
    | (refine wpList_store_last rfl 142 (.tmp 11) (.tmp 15) rfl _ _ _ _ rfl rfl (by simp) (by kernel_rfl) (by kernel_rfl) (by kernel_rfl) ?_))
  go_ret3
  exact ⟨rfl, (by repeat first | exact Ext.refl _ | assumption | refine Ext.drew ?_ | refine Ext.drewN ?_ _ | refine Ext.extBy ?_ _ | refine Ext.alloc ?_ _ | refine Ext.setCell ?_ (by simp; try omega) _ | (refine Ext.trans ?_ (by assumption)))⟩


set_option maxHeartbeats 1000000 in
theorem bvBin_bad19 (k a b : Int) (h1 : isk k a = true) (h2 : isk k b = true) (h : fitsv 2 k = false) (w : World) :
    Calls Try.prog 81 #[.int .i64 19, .int .i64 k, .int .i64 a, .int .i64 b] w fun e w' => e = .returned (.tuple #[.int .i64 0, .int .i64 0, .bool false]) ∧ Ext w w' := by
  go_enter Try.func81, Try.ntmps81
  go_wp2_with (first
    | (go_at_call 84; refine (bvRows_any _).mono ?_; rintro e w1 ⟨rfl, hx⟩; (first | (with_reducible obtain ⟨t0, rfl⟩ := Ext.tok2 hx) | (obtain ⟨t0, rfl⟩ := Ext.tok hx)))
    | (go_at_call 47; refine (bvIs_any _ _ _).mono ?_; rintro e w1 ⟨rfl, rfl⟩)
    | (go_at_call 85; refine (bvFits_any _ _ _).mono ?_; rintro e w1 ⟨rfl, rfl⟩)
    | (refine wpList_store_last rfl 142 (.tmp 11) (.tmp 15) rfl _ _ _ _ rfl rfl (by simp) (by kernel_rfl) (by kernel_rfl) (by kernel_rfl) ?_))
  go_ret3
  exact ⟨rfl, (by repeat first | exact Ext.refl _ | assumption | refine Ext.drew ?_ | refine Ext.drewN ?_ _ | refine Ext.extBy ?_ _ | refine Ext.alloc ?_ _ | refine Ext.setCell ?_ (by simp; try omega) _ | (refine Ext.trans ?_ (by assumption)))⟩


set_option maxHeartbeats 1000000 in
theorem bvBin_op3 (k a b : Int) (h1 : isk k a = true) (h2 : isk k b = true) (h : fitsv 2 k = true) (w : World) :
    Calls Try.prog 81 #[.int .i64 3, .int .i64 k, .int .i64 a, .int .i64 b] w fun e w' => e = .returned (.tuple #[.int .i64 (wkr k (wrap64 (a + b))), .int .i64 (k), .bool true]) ∧ Ext w w' := by
  go_enter Try.func81, Try.ntmps81
  go_wp2_with (first
    | (go_at_call 87; refine (bvAdd_any _ _ _ _ _).mono ?_; rintro e w1 ⟨rfl, hx⟩; (first | (with_reducible obtain ⟨t1, rfl⟩ := Ext.tok2 hx) | (obtain ⟨t1, rfl⟩ := Ext.tok hx))) | (go_at_call 86; go_in)
    | (go_at_call 84; refine (bvRows_any _).mono ?_; rintro e w1 ⟨rfl, hx⟩; (first | (with_reducible obtain ⟨t0, rfl⟩ := Ext.tok2 hx) | (obtain ⟨t0, rfl⟩ := Ext.tok hx)))
    | (go_at_call 47; refine (bvIs_any _ _ _).mono ?_; rintro e w1 ⟨rfl, rfl⟩)
    | (go_at_call 85; refine (bvFits_any _ _ _).mono ?_; rintro e w1 ⟨rfl, rfl⟩)
    | (refine wpList_store_last rfl 142 (.tmp 11) (.tmp 15) rfl _ _ _ _ rfl rfl (by simp) (by kernel_rfl) (by kernel_rfl) (by kernel_rfl) ?_))
  ((first | (with_reducible refine region_ext2 (by kernel_rfl) (by kernel_rfl) ?_) | refine region_ext (by kernel_rfl) (by kernel_rfl) ?_); (repeat (go_big_quiet_step (fail))); refine wpQuiet_nil ?_; rintro _ ⟨t1, rfl⟩)
  go_wp2
  go_ret3
  go_wp2
  go_ret3
  exact ⟨rfl, (by repeat first | exact Ext.refl _ | assumption | refine Ext.drew ?_ | refine Ext.drewN ?_ _ | refine Ext.extBy ?_ _ | refine Ext.alloc ?_ _ | refine Ext.setCell ?_ (by simp; try omega) _ | (refine Ext.trans ?_ (by assumption)))⟩


set_option maxHeartbeats 1000000 in
theorem bvBin_op4 (k a b : Int) (h1 : isk k a = true) (h2 : isk k b = true) (h : fitsv 2 k = true) (w : World) :
    Calls Try.prog 81 #[.int .i64 4, .int .i64 k, .int .i64 a, .int .i64 b] w fun e w' => e = .returned (.tuple #[.int .i64 (wkr k (wrap64 (a - b))), .int .i64 (k), .bool true]) ∧ Ext w w' := by
  go_enter Try.func81, Try.ntmps81
  go_wp2_with (first
    | (go_at_call 89; refine (bvSub_any _ _ _ _ _).mono ?_; rintro e w1 ⟨rfl, hx⟩; (first | (with_reducible obtain ⟨t1, rfl⟩ := Ext.tok2 hx) | (obtain ⟨t1, rfl⟩ := Ext.tok hx)))
    | (go_at_call 84; refine (bvRows_any _).mono ?_; rintro e w1 ⟨rfl, hx⟩; (first | (with_reducible obtain ⟨t0, rfl⟩ := Ext.tok2 hx) | (obtain ⟨t0, rfl⟩ := Ext.tok hx)))
    | (go_at_call 47; refine (bvIs_any _ _ _).mono ?_; rintro e w1 ⟨rfl, rfl⟩)
    | (go_at_call 85; refine (bvFits_any _ _ _).mono ?_; rintro e w1 ⟨rfl, rfl⟩)
    | (refine wpList_store_last rfl 142 (.tmp 11) (.tmp 15) rfl _ _ _ _ rfl rfl (by simp) (by kernel_rfl) (by kernel_rfl) (by kernel_rfl) ?_))
  ((first | (with_reducible refine region_ext2 (by kernel_rfl) (by kernel_rfl) ?_) | refine region_ext (by kernel_rfl) (by kernel_rfl) ?_); (repeat (go_big_quiet_step (fail))); refine wpQuiet_nil ?_; rintro _ ⟨t1, rfl⟩)
  go_wp2
  go_ret3
  exact ⟨rfl, (by repeat first | exact Ext.refl _ | assumption | refine Ext.drew ?_ | refine Ext.drewN ?_ _ | refine Ext.extBy ?_ _ | refine Ext.alloc ?_ _ | refine Ext.setCell ?_ (by simp; try omega) _ | (refine Ext.trans ?_ (by assumption)))⟩


set_option maxHeartbeats 1000000 in
theorem bvBin_op5 (k a b : Int) (h1 : isk k a = true) (h2 : isk k b = true) (h : fitsv 2 k = true) (w : World) :
    Calls Try.prog 81 #[.int .i64 5, .int .i64 k, .int .i64 a, .int .i64 b] w fun e w' => e = .returned (.tuple #[.int .i64 (wkr k (wrap64 (a * b))), .int .i64 (k), .bool true]) ∧ Ext w w' := by
  go_enter Try.func81, Try.ntmps81
  go_wp2_with (first
    | (go_at_call 90; refine (bvMul_any _ _ _ _ _).mono ?_; rintro e w1 ⟨rfl, hx⟩; (first | (with_reducible obtain ⟨t1, rfl⟩ := Ext.tok2 hx) | (obtain ⟨t1, rfl⟩ := Ext.tok hx)))
    | (go_at_call 84; refine (bvRows_any _).mono ?_; rintro e w1 ⟨rfl, hx⟩; (first | (with_reducible obtain ⟨t0, rfl⟩ := Ext.tok2 hx) | (obtain ⟨t0, rfl⟩ := Ext.tok hx)))
    | (go_at_call 47; refine (bvIs_any _ _ _).mono ?_; rintro e w1 ⟨rfl, rfl⟩)
    | (go_at_call 85; refine (bvFits_any _ _ _).mono ?_; rintro e w1 ⟨rfl, rfl⟩)
    | (refine wpList_store_last rfl 142 (.tmp 11) (.tmp 15) rfl _ _ _ _ rfl rfl (by simp) (by kernel_rfl) (by kernel_rfl) (by kernel_rfl) ?_))
  ((first | (with_reducible refine region_ext2 (by kernel_rfl) (by kernel_rfl) ?_) | refine region_ext (by kernel_rfl) (by kernel_rfl) ?_); (repeat (go_big_quiet_step (fail))); refine wpQuiet_nil ?_; rintro _ ⟨t1, rfl⟩)
  go_wp2
  go_ret3
  exact ⟨rfl, (by repeat first | exact Ext.refl _ | assumption | refine Ext.drew ?_ | refine Ext.drewN ?_ _ | refine Ext.extBy ?_ _ | refine Ext.alloc ?_ _ | refine Ext.setCell ?_ (by simp; try omega) _ | (refine Ext.trans ?_ (by assumption)))⟩


set_option maxHeartbeats 1000000 in
theorem bvBin_op6 (k a b : Int) (h1 : isk k a = true) (h2 : isk k b = true) (h : fitsv 2 k = true) (hb : I64 b) (w : World) :
    Calls Try.prog 81 #[.int .i64 6, .int .i64 k, .int .i64 a, .int .i64 b] w fun e w' => e = .returned (.tuple #[.int .i64 (wkr k (divv k a b)), .int .i64 (k), .bool true]) ∧ Ext w w' := by
  go_enter Try.func81, Try.ntmps81
  go_wp2_with (first
    | (go_at_call 91; refine (bvDiv_any _ _ _ _ hb _).mono ?_; rintro e w1 ⟨rfl, hx⟩; (first | (with_reducible obtain ⟨t1, rfl⟩ := Ext.tok2 hx) | (obtain ⟨t1, rfl⟩ := Ext.tok hx)))
    | (go_at_call 84; refine (bvRows_any _).mono ?_; rintro e w1 ⟨rfl, hx⟩; (first | (with_reducible obtain ⟨t0, rfl⟩ := Ext.tok2 hx) | (obtain ⟨t0, rfl⟩ := Ext.tok hx)))
    | (go_at_call 47; refine (bvIs_any _ _ _).mono ?_; rintro e w1 ⟨rfl, rfl⟩)
    | (go_at_call 85; refine (bvFits_any _ _ _).mono ?_; rintro e w1 ⟨rfl, rfl⟩)
    | (refine wpList_store_last rfl 142 (.tmp 11) (.tmp 15) rfl _ _ _ _ rfl rfl (by simp) (by kernel_rfl) (by kernel_rfl) (by kernel_rfl) ?_))
  ((first | (with_reducible refine region_ext2 (by kernel_rfl) (by kernel_rfl) ?_) | refine region_ext (by kernel_rfl) (by kernel_rfl) ?_); (repeat (go_big_quiet_step (fail))); refine wpQuiet_nil ?_; rintro _ ⟨t1, rfl⟩)
  go_wp2
  go_ret3
  exact ⟨rfl, (by repeat first | exact Ext.refl _ | assumption | refine Ext.drew ?_ | refine Ext.drewN ?_ _ | refine Ext.extBy ?_ _ | refine Ext.alloc ?_ _ | refine Ext.setCell ?_ (by simp; try omega) _ | (refine Ext.trans ?_ (by assumption)))⟩


set_option maxHeartbeats 1000000 in
theorem bvBin_op7 (k a b : Int) (h1 : isk k a = true) (h2 : isk k b = true) (h : fitsv 2 k = true) (hb : I64 b) (w : World) :
    Calls Try.prog 81 #[.int .i64 7, .int .i64 k, .int .i64 a, .int .i64 b] w fun e w' => e = .returned (.tuple #[.int .i64 (wkr k (modv k a b)), .int .i64 (k), .bool true]) ∧ Ext w w' := by
  go_enter Try.func81, Try.ntmps81
  go_wp2_with (first
    | (go_at_call 92; refine (bvMod_any _ _ _ _ hb _).mono ?_; rintro e w1 ⟨rfl, hx⟩; (first | (with_reducible obtain ⟨t1, rfl⟩ := Ext.tok2 hx) | (obtain ⟨t1, rfl⟩ := Ext.tok hx)))
    | (go_at_call 84; refine (bvRows_any _).mono ?_; rintro e w1 ⟨rfl, hx⟩; (first | (with_reducible obtain ⟨t0, rfl⟩ := Ext.tok2 hx) | (obtain ⟨t0, rfl⟩ := Ext.tok hx)))
    | (go_at_call 47; refine (bvIs_any _ _ _).mono ?_; rintro e w1 ⟨rfl, rfl⟩)
    | (go_at_call 85; refine (bvFits_any _ _ _).mono ?_; rintro e w1 ⟨rfl, rfl⟩)
    | (refine wpList_store_last rfl 142 (.tmp 11) (.tmp 15) rfl _ _ _ _ rfl rfl (by simp) (by kernel_rfl) (by kernel_rfl) (by kernel_rfl) ?_))
  ((first | (with_reducible refine region_ext2 (by kernel_rfl) (by kernel_rfl) ?_) | refine region_ext (by kernel_rfl) (by kernel_rfl) ?_); (repeat (go_big_quiet_step (fail))); refine wpQuiet_nil ?_; rintro _ ⟨t1, rfl⟩)
  go_wp2
  go_ret3
  exact ⟨rfl, (by repeat first | exact Ext.refl _ | assumption | refine Ext.drew ?_ | refine Ext.drewN ?_ _ | refine Ext.extBy ?_ _ | refine Ext.alloc ?_ _ | refine Ext.setCell ?_ (by simp; try omega) _ | (refine Ext.trans ?_ (by assumption)))⟩


set_option maxHeartbeats 1000000 in
theorem bvBin_op8 (k a b : Int) (h1 : isk k a = true) (h2 : isk k b = true) (h : fitsv 3 k = true) (w : World) :
    Calls Try.prog 81 #[.int .i64 8, .int .i64 k, .int .i64 a, .int .i64 b] w fun e w' => e = .returned (.tuple #[.int .i64 (wkr k (bits .and .i64 a b)), .int .i64 (k), .bool true]) ∧ Ext w w' := by
  go_enter Try.func81, Try.ntmps81
  go_wp2_with (first
    | (go_at_call 93; refine (bvAnd_any _ _ _ _ _).mono ?_; rintro e w1 ⟨rfl, hx⟩; (first | (with_reducible obtain ⟨t1, rfl⟩ := Ext.tok2 hx) | (obtain ⟨t1, rfl⟩ := Ext.tok hx)))
    | (go_at_call 84; refine (bvRows_any _).mono ?_; rintro e w1 ⟨rfl, hx⟩; (first | (with_reducible obtain ⟨t0, rfl⟩ := Ext.tok2 hx) | (obtain ⟨t0, rfl⟩ := Ext.tok hx)))
    | (go_at_call 47; refine (bvIs_any _ _ _).mono ?_; rintro e w1 ⟨rfl, rfl⟩)
    | (go_at_call 85; refine (bvFits_any _ _ _).mono ?_; rintro e w1 ⟨rfl, rfl⟩)
    | (refine wpList_store_last rfl 142 (.tmp 11) (.tmp 15) rfl _ _ _ _ rfl rfl (by simp) (by kernel_rfl) (by kernel_rfl) (by kernel_rfl) ?_))
  ((first | (with_reducible refine region_ext2 (by kernel_rfl) (by kernel_rfl) ?_) | refine region_ext (by kernel_rfl) (by kernel_rfl) ?_); (repeat (go_big_quiet_step (fail))); refine wpQuiet_nil ?_; rintro _ ⟨t1, rfl⟩)
  go_wp2
  go_ret3
  exact ⟨rfl, (by repeat first | exact Ext.refl _ | assumption | refine Ext.drew ?_ | refine Ext.drewN ?_ _ | refine Ext.extBy ?_ _ | refine Ext.alloc ?_ _ | refine Ext.setCell ?_ (by simp; try omega) _ | (refine Ext.trans ?_ (by assumption)))⟩


set_option maxHeartbeats 1000000 in
theorem bvBin_op9 (k a b : Int) (h1 : isk k a = true) (h2 : isk k b = true) (h : fitsv 3 k = true) (w : World) :
    Calls Try.prog 81 #[.int .i64 9, .int .i64 k, .int .i64 a, .int .i64 b] w fun e w' => e = .returned (.tuple #[.int .i64 (wkr k (bits .or .i64 a b)), .int .i64 (k), .bool true]) ∧ Ext w w' := by
  go_enter Try.func81, Try.ntmps81
  go_wp2_with (first
    | (go_at_call 94; refine (bvOr_any _ _ _ _ _).mono ?_; rintro e w1 ⟨rfl, hx⟩; (first | (with_reducible obtain ⟨t1, rfl⟩ := Ext.tok2 hx) | (obtain ⟨t1, rfl⟩ := Ext.tok hx)))
    | (go_at_call 84; refine (bvRows_any _).mono ?_; rintro e w1 ⟨rfl, hx⟩; (first | (with_reducible obtain ⟨t0, rfl⟩ := Ext.tok2 hx) | (obtain ⟨t0, rfl⟩ := Ext.tok hx)))
    | (go_at_call 47; refine (bvIs_any _ _ _).mono ?_; rintro e w1 ⟨rfl, rfl⟩)
    | (go_at_call 85; refine (bvFits_any _ _ _).mono ?_; rintro e w1 ⟨rfl, rfl⟩)
    | (refine wpList_store_last rfl 142 (.tmp 11) (.tmp 15) rfl _ _ _ _ rfl rfl (by simp) (by kernel_rfl) (by kernel_rfl) (by kernel_rfl) ?_))
  ((first | (with_reducible refine region_ext2 (by kernel_rfl) (by kernel_rfl) ?_) | refine region_ext (by kernel_rfl) (by kernel_rfl) ?_); (repeat (go_big_quiet_step (fail))); refine wpQuiet_nil ?_; rintro _ ⟨t1, rfl⟩)
  go_wp2
  go_ret3
  exact ⟨rfl, (by repeat first | exact Ext.refl _ | assumption | refine Ext.drew ?_ | refine Ext.drewN ?_ _ | refine Ext.extBy ?_ _ | refine Ext.alloc ?_ _ | refine Ext.setCell ?_ (by simp; try omega) _ | (refine Ext.trans ?_ (by assumption)))⟩


set_option maxHeartbeats 1000000 in
theorem bvBin_op10 (k a b : Int) (h1 : isk k a = true) (h2 : isk k b = true) (h : fitsv 3 k = true) (w : World) :
    Calls Try.prog 81 #[.int .i64 10, .int .i64 k, .int .i64 a, .int .i64 b] w fun e w' => e = .returned (.tuple #[.int .i64 (wkr k (bits .xor .i64 a b)), .int .i64 (k), .bool true]) ∧ Ext w w' := by
  go_enter Try.func81, Try.ntmps81
  go_wp2_with (first
    | (go_at_call 95; refine (bvXor_any _ _ _ _ _).mono ?_; rintro e w1 ⟨rfl, hx⟩; (first | (with_reducible obtain ⟨t1, rfl⟩ := Ext.tok2 hx) | (obtain ⟨t1, rfl⟩ := Ext.tok hx)))
    | (go_at_call 84; refine (bvRows_any _).mono ?_; rintro e w1 ⟨rfl, hx⟩; (first | (with_reducible obtain ⟨t0, rfl⟩ := Ext.tok2 hx) | (obtain ⟨t0, rfl⟩ := Ext.tok hx)))
    | (go_at_call 47; refine (bvIs_any _ _ _).mono ?_; rintro e w1 ⟨rfl, rfl⟩)
    | (go_at_call 85; refine (bvFits_any _ _ _).mono ?_; rintro e w1 ⟨rfl, rfl⟩)
    | (refine wpList_store_last rfl 142 (.tmp 11) (.tmp 15) rfl _ _ _ _ rfl rfl (by simp) (by kernel_rfl) (by kernel_rfl) (by kernel_rfl) ?_))
  ((first | (with_reducible refine region_ext2 (by kernel_rfl) (by kernel_rfl) ?_) | refine region_ext (by kernel_rfl) (by kernel_rfl) ?_); (repeat (go_big_quiet_step (fail))); refine wpQuiet_nil ?_; rintro _ ⟨t1, rfl⟩)
  go_wp2
  go_ret3
  exact ⟨rfl, (by repeat first | exact Ext.refl _ | assumption | refine Ext.drew ?_ | refine Ext.drewN ?_ _ | refine Ext.extBy ?_ _ | refine Ext.alloc ?_ _ | refine Ext.setCell ?_ (by simp; try omega) _ | (refine Ext.trans ?_ (by assumption)))⟩


set_option maxHeartbeats 1000000 in
theorem bvBin_op11 (k a b : Int) (h1 : isk k a = true) (h2 : isk k b = true) (h : fitsv 1 k = true) (w : World) :
    Calls Try.prog 81 #[.int .i64 11, .int .i64 k, .int .i64 a, .int .i64 b] w fun e w' => e = .returned (.tuple #[.int .i64 (tru (a == 0 || b != 0)), .int .i64 (1), .bool true]) ∧ Ext w w' := by
  go_enter Try.func81, Try.ntmps81
  go_wp2_with (first
    | (go_at_call 96; refine (bvImp_any _ _ _ _ _).mono ?_; rintro e w1 ⟨rfl, hx⟩; (first | (with_reducible obtain ⟨t1, rfl⟩ := Ext.tok2 hx) | (obtain ⟨t1, rfl⟩ := Ext.tok hx)))
    | (go_at_call 84; refine (bvRows_any _).mono ?_; rintro e w1 ⟨rfl, hx⟩; (first | (with_reducible obtain ⟨t0, rfl⟩ := Ext.tok2 hx) | (obtain ⟨t0, rfl⟩ := Ext.tok hx)))
    | (go_at_call 47; refine (bvIs_any _ _ _).mono ?_; rintro e w1 ⟨rfl, rfl⟩)
    | (go_at_call 85; refine (bvFits_any _ _ _).mono ?_; rintro e w1 ⟨rfl, rfl⟩)
    | (refine wpList_store_last rfl 142 (.tmp 11) (.tmp 15) rfl _ _ _ _ rfl rfl (by simp) (by kernel_rfl) (by kernel_rfl) (by kernel_rfl) ?_))
  ((first | (with_reducible refine region_ext2 (by kernel_rfl) (by kernel_rfl) ?_) | refine region_ext (by kernel_rfl) (by kernel_rfl) ?_); (repeat (go_big_quiet_step (fail))); refine wpQuiet_nil ?_; rintro _ ⟨t1, rfl⟩)
  go_wp2
  go_ret3
  exact ⟨rfl, (by repeat first | exact Ext.refl _ | assumption | refine Ext.drew ?_ | refine Ext.drewN ?_ _ | refine Ext.extBy ?_ _ | refine Ext.alloc ?_ _ | refine Ext.setCell ?_ (by simp; try omega) _ | (refine Ext.trans ?_ (by assumption)))⟩


set_option maxHeartbeats 1000000 in
theorem bvBin_op12 (k a b : Int) (h1 : isk k a = true) (h2 : isk k b = true) (h : fitsv 2 k = true) (w : World) :
    Calls Try.prog 81 #[.int .i64 12, .int .i64 k, .int .i64 a, .int .i64 b] w fun e w' => e = .returned (.tuple #[.int .i64 (wkr k (shlv k a k b)), .int .i64 (k), .bool true]) ∧ Ext w w' := by
  go_enter Try.func81, Try.ntmps81
  go_wp2_with (first
    | (go_at_call 97; refine (bvShl_any _ _ _ _ _).mono ?_; rintro e w1 ⟨rfl, hx⟩; (first | (with_reducible obtain ⟨t1, rfl⟩ := Ext.tok2 hx) | (obtain ⟨t1, rfl⟩ := Ext.tok hx)))
    | (go_at_call 84; refine (bvRows_any _).mono ?_; rintro e w1 ⟨rfl, hx⟩; (first | (with_reducible obtain ⟨t0, rfl⟩ := Ext.tok2 hx) | (obtain ⟨t0, rfl⟩ := Ext.tok hx)))
    | (go_at_call 47; refine (bvIs_any _ _ _).mono ?_; rintro e w1 ⟨rfl, rfl⟩)
    | (go_at_call 85; refine (bvFits_any _ _ _).mono ?_; rintro e w1 ⟨rfl, rfl⟩)
    | (refine wpList_store_last rfl 142 (.tmp 11) (.tmp 15) rfl _ _ _ _ rfl rfl (by simp) (by kernel_rfl) (by kernel_rfl) (by kernel_rfl) ?_))
  ((first | (with_reducible refine region_ext2 (by kernel_rfl) (by kernel_rfl) ?_) | refine region_ext (by kernel_rfl) (by kernel_rfl) ?_); (repeat (go_big_quiet_step (fail))); refine wpQuiet_nil ?_; rintro _ ⟨t1, rfl⟩)
  go_wp2
  go_ret3
  exact ⟨rfl, (by repeat first | exact Ext.refl _ | assumption | refine Ext.drew ?_ | refine Ext.drewN ?_ _ | refine Ext.extBy ?_ _ | refine Ext.alloc ?_ _ | refine Ext.setCell ?_ (by simp; try omega) _ | (refine Ext.trans ?_ (by assumption)))⟩


set_option maxHeartbeats 1000000 in
theorem bvBin_op13 (k a b : Int) (h1 : isk k a = true) (h2 : isk k b = true) (h : fitsv 2 k = true) (w : World) :
    Calls Try.prog 81 #[.int .i64 13, .int .i64 k, .int .i64 a, .int .i64 b] w fun e w' => e = .returned (.tuple #[.int .i64 (wkr k (shrv k a k b)), .int .i64 (k), .bool true]) ∧ Ext w w' := by
  go_enter Try.func81, Try.ntmps81
  go_wp2_with (first
    | (go_at_call 98; refine (bvShr_any _ _ _ _ _).mono ?_; rintro e w1 ⟨rfl, hx⟩; (first | (with_reducible obtain ⟨t1, rfl⟩ := Ext.tok2 hx) | (obtain ⟨t1, rfl⟩ := Ext.tok hx)))
    | (go_at_call 84; refine (bvRows_any _).mono ?_; rintro e w1 ⟨rfl, hx⟩; (first | (with_reducible obtain ⟨t0, rfl⟩ := Ext.tok2 hx) | (obtain ⟨t0, rfl⟩ := Ext.tok hx)))
    | (go_at_call 47; refine (bvIs_any _ _ _).mono ?_; rintro e w1 ⟨rfl, rfl⟩)
    | (go_at_call 85; refine (bvFits_any _ _ _).mono ?_; rintro e w1 ⟨rfl, rfl⟩)
    | (refine wpList_store_last rfl 142 (.tmp 11) (.tmp 15) rfl _ _ _ _ rfl rfl (by simp) (by kernel_rfl) (by kernel_rfl) (by kernel_rfl) ?_))
  ((first | (with_reducible refine region_ext2 (by kernel_rfl) (by kernel_rfl) ?_) | refine region_ext (by kernel_rfl) (by kernel_rfl) ?_); (repeat (go_big_quiet_step (fail))); refine wpQuiet_nil ?_; rintro _ ⟨t1, rfl⟩)
  go_wp2
  go_ret3
  exact ⟨rfl, (by repeat first | exact Ext.refl _ | assumption | refine Ext.drew ?_ | refine Ext.drewN ?_ _ | refine Ext.extBy ?_ _ | refine Ext.alloc ?_ _ | refine Ext.setCell ?_ (by simp; try omega) _ | (refine Ext.trans ?_ (by assumption)))⟩


set_option maxHeartbeats 1000000 in
theorem bvBin_op14 (k a b : Int) (h1 : isk k a = true) (h2 : isk k b = true) (h : fitsv 3 k = true) (w : World) :
    Calls Try.prog 81 #[.int .i64 14, .int .i64 k, .int .i64 a, .int .i64 b] w fun e w' => e = .returned (.tuple #[.int .i64 (tru (a == b)), .int .i64 (1), .bool true]) ∧ Ext w w' := by
  go_enter Try.func81, Try.ntmps81
  go_wp2_with (first
    | (go_at_call 99; refine (bvEq_any _ _ _ _ _).mono ?_; rintro e w1 ⟨rfl, hx⟩; (first | (with_reducible obtain ⟨t1, rfl⟩ := Ext.tok2 hx) | (obtain ⟨t1, rfl⟩ := Ext.tok hx)))
    | (go_at_call 84; refine (bvRows_any _).mono ?_; rintro e w1 ⟨rfl, hx⟩; (first | (with_reducible obtain ⟨t0, rfl⟩ := Ext.tok2 hx) | (obtain ⟨t0, rfl⟩ := Ext.tok hx)))
    | (go_at_call 47; refine (bvIs_any _ _ _).mono ?_; rintro e w1 ⟨rfl, rfl⟩)
    | (go_at_call 85; refine (bvFits_any _ _ _).mono ?_; rintro e w1 ⟨rfl, rfl⟩)
    | (refine wpList_store_last rfl 142 (.tmp 11) (.tmp 15) rfl _ _ _ _ rfl rfl (by simp) (by kernel_rfl) (by kernel_rfl) (by kernel_rfl) ?_))
  ((first | (with_reducible refine region_ext2 (by kernel_rfl) (by kernel_rfl) ?_) | refine region_ext (by kernel_rfl) (by kernel_rfl) ?_); (repeat (go_big_quiet_step (fail))); refine wpQuiet_nil ?_; rintro _ ⟨t1, rfl⟩)
  go_wp2
  go_ret3
  exact ⟨rfl, (by repeat first | exact Ext.refl _ | assumption | refine Ext.drew ?_ | refine Ext.drewN ?_ _ | refine Ext.extBy ?_ _ | refine Ext.alloc ?_ _ | refine Ext.setCell ?_ (by simp; try omega) _ | (refine Ext.trans ?_ (by assumption)))⟩


set_option maxHeartbeats 1000000 in
theorem bvBin_op15 (k a b : Int) (h1 : isk k a = true) (h2 : isk k b = true) (h : fitsv 3 k = true) (w : World) :
    Calls Try.prog 81 #[.int .i64 15, .int .i64 k, .int .i64 a, .int .i64 b] w fun e w' => e = .returned (.tuple #[.int .i64 (tru (a != b)), .int .i64 (1), .bool true]) ∧ Ext w w' := by
  go_enter Try.func81, Try.ntmps81
  go_wp2_with (first
    | (go_at_call 100; refine (bvNe_any _ _ _ _ _).mono ?_; rintro e w1 ⟨rfl, hx⟩; (first | (with_reducible obtain ⟨t1, rfl⟩ := Ext.tok2 hx) | (obtain ⟨t1, rfl⟩ := Ext.tok hx)))
    | (go_at_call 84; refine (bvRows_any _).mono ?_; rintro e w1 ⟨rfl, hx⟩; (first | (with_reducible obtain ⟨t0, rfl⟩ := Ext.tok2 hx) | (obtain ⟨t0, rfl⟩ := Ext.tok hx)))
    | (go_at_call 47; refine (bvIs_any _ _ _).mono ?_; rintro e w1 ⟨rfl, rfl⟩)
    | (go_at_call 85; refine (bvFits_any _ _ _).mono ?_; rintro e w1 ⟨rfl, rfl⟩)
    | (refine wpList_store_last rfl 142 (.tmp 11) (.tmp 15) rfl _ _ _ _ rfl rfl (by simp) (by kernel_rfl) (by kernel_rfl) (by kernel_rfl) ?_))
  ((first | (with_reducible refine region_ext2 (by kernel_rfl) (by kernel_rfl) ?_) | refine region_ext (by kernel_rfl) (by kernel_rfl) ?_); (repeat (go_big_quiet_step (fail))); refine wpQuiet_nil ?_; rintro _ ⟨t1, rfl⟩)
  go_wp2
  go_ret3
  exact ⟨rfl, (by repeat first | exact Ext.refl _ | assumption | refine Ext.drew ?_ | refine Ext.drewN ?_ _ | refine Ext.extBy ?_ _ | refine Ext.alloc ?_ _ | refine Ext.setCell ?_ (by simp; try omega) _ | (refine Ext.trans ?_ (by assumption)))⟩


set_option maxHeartbeats 1000000 in
theorem bvBin_op16 (k a b : Int) (h1 : isk k a = true) (h2 : isk k b = true) (h : fitsv 2 k = true) (w : World) :
    Calls Try.prog 81 #[.int .i64 16, .int .i64 k, .int .i64 a, .int .i64 b] w fun e w' => e = .returned (.tuple #[.int .i64 (tru (blw k a b)), .int .i64 (1), .bool true]) ∧ Ext w w' := by
  go_enter Try.func81, Try.ntmps81
  go_wp2_with (first
    | (go_at_call 101; refine (bvLt_any _ _ _ _ _).mono ?_; rintro e w1 ⟨rfl, hx⟩; (first | (with_reducible obtain ⟨t1, rfl⟩ := Ext.tok2 hx) | (obtain ⟨t1, rfl⟩ := Ext.tok hx)))
    | (go_at_call 84; refine (bvRows_any _).mono ?_; rintro e w1 ⟨rfl, hx⟩; (first | (with_reducible obtain ⟨t0, rfl⟩ := Ext.tok2 hx) | (obtain ⟨t0, rfl⟩ := Ext.tok hx)))
    | (go_at_call 47; refine (bvIs_any _ _ _).mono ?_; rintro e w1 ⟨rfl, rfl⟩)
    | (go_at_call 85; refine (bvFits_any _ _ _).mono ?_; rintro e w1 ⟨rfl, rfl⟩)
    | (refine wpList_store_last rfl 142 (.tmp 11) (.tmp 15) rfl _ _ _ _ rfl rfl (by simp) (by kernel_rfl) (by kernel_rfl) (by kernel_rfl) ?_))
  ((first | (with_reducible refine region_ext2 (by kernel_rfl) (by kernel_rfl) ?_) | refine region_ext (by kernel_rfl) (by kernel_rfl) ?_); (repeat (go_big_quiet_step (fail))); refine wpQuiet_nil ?_; rintro _ ⟨t1, rfl⟩)
  go_wp2
  go_ret3
  exact ⟨rfl, (by repeat first | exact Ext.refl _ | assumption | refine Ext.drew ?_ | refine Ext.drewN ?_ _ | refine Ext.extBy ?_ _ | refine Ext.alloc ?_ _ | refine Ext.setCell ?_ (by simp; try omega) _ | (refine Ext.trans ?_ (by assumption)))⟩


set_option maxHeartbeats 1000000 in
theorem bvBin_op17 (k a b : Int) (h1 : isk k a = true) (h2 : isk k b = true) (h : fitsv 2 k = true) (w : World) :
    Calls Try.prog 81 #[.int .i64 17, .int .i64 k, .int .i64 a, .int .i64 b] w fun e w' => e = .returned (.tuple #[.int .i64 (tru (!(blw k b a))), .int .i64 (1), .bool true]) ∧ Ext w w' := by
  go_enter Try.func81, Try.ntmps81
  go_wp2_with (first
    | (go_at_call 102; refine (bvLe_any _ _ _ _ _).mono ?_; rintro e w1 ⟨rfl, hx⟩; (first | (with_reducible obtain ⟨t1, rfl⟩ := Ext.tok2 hx) | (obtain ⟨t1, rfl⟩ := Ext.tok hx)))
    | (go_at_call 84; refine (bvRows_any _).mono ?_; rintro e w1 ⟨rfl, hx⟩; (first | (with_reducible obtain ⟨t0, rfl⟩ := Ext.tok2 hx) | (obtain ⟨t0, rfl⟩ := Ext.tok hx)))
    | (go_at_call 47; refine (bvIs_any _ _ _).mono ?_; rintro e w1 ⟨rfl, rfl⟩)
    | (go_at_call 85; refine (bvFits_any _ _ _).mono ?_; rintro e w1 ⟨rfl, rfl⟩)
    | (refine wpList_store_last rfl 142 (.tmp 11) (.tmp 15) rfl _ _ _ _ rfl rfl (by simp) (by kernel_rfl) (by kernel_rfl) (by kernel_rfl) ?_))
  ((first | (with_reducible refine region_ext2 (by kernel_rfl) (by kernel_rfl) ?_) | refine region_ext (by kernel_rfl) (by kernel_rfl) ?_); (repeat (go_big_quiet_step (fail))); refine wpQuiet_nil ?_; rintro _ ⟨t1, rfl⟩)
  go_wp2
  go_ret3
  exact ⟨rfl, (by repeat first | exact Ext.refl _ | assumption | refine Ext.drew ?_ | refine Ext.drewN ?_ _ | refine Ext.extBy ?_ _ | refine Ext.alloc ?_ _ | refine Ext.setCell ?_ (by simp; try omega) _ | (refine Ext.trans ?_ (by assumption)))⟩


set_option maxHeartbeats 1000000 in
theorem bvBin_op18 (k a b : Int) (h1 : isk k a = true) (h2 : isk k b = true) (h : fitsv 2 k = true) (w : World) :
    Calls Try.prog 81 #[.int .i64 18, .int .i64 k, .int .i64 a, .int .i64 b] w fun e w' => e = .returned (.tuple #[.int .i64 (tru (blw k b a)), .int .i64 (1), .bool true]) ∧ Ext w w' := by
  go_enter Try.func81, Try.ntmps81
  go_wp2_with (first
    | (go_at_call 103; refine (bvGt_any _ _ _ _ _).mono ?_; rintro e w1 ⟨rfl, hx⟩; (first | (with_reducible obtain ⟨t1, rfl⟩ := Ext.tok2 hx) | (obtain ⟨t1, rfl⟩ := Ext.tok hx)))
    | (go_at_call 84; refine (bvRows_any _).mono ?_; rintro e w1 ⟨rfl, hx⟩; (first | (with_reducible obtain ⟨t0, rfl⟩ := Ext.tok2 hx) | (obtain ⟨t0, rfl⟩ := Ext.tok hx)))
    | (go_at_call 47; refine (bvIs_any _ _ _).mono ?_; rintro e w1 ⟨rfl, rfl⟩)
    | (go_at_call 85; refine (bvFits_any _ _ _).mono ?_; rintro e w1 ⟨rfl, rfl⟩)
    | (refine wpList_store_last rfl 142 (.tmp 11) (.tmp 15) rfl _ _ _ _ rfl rfl (by simp) (by kernel_rfl) (by kernel_rfl) (by kernel_rfl) ?_))
  ((first | (with_reducible refine region_ext2 (by kernel_rfl) (by kernel_rfl) ?_) | refine region_ext (by kernel_rfl) (by kernel_rfl) ?_); (repeat (go_big_quiet_step (fail))); refine wpQuiet_nil ?_; rintro _ ⟨t1, rfl⟩)
  go_wp2
  go_ret3
  exact ⟨rfl, (by repeat first | exact Ext.refl _ | assumption | refine Ext.drew ?_ | refine Ext.drewN ?_ _ | refine Ext.extBy ?_ _ | refine Ext.alloc ?_ _ | refine Ext.setCell ?_ (by simp; try omega) _ | (refine Ext.trans ?_ (by assumption)))⟩


set_option maxHeartbeats 1000000 in
theorem bvBin_op19 (k a b : Int) (h1 : isk k a = true) (h2 : isk k b = true) (h : fitsv 2 k = true) (w : World) :
    Calls Try.prog 81 #[.int .i64 19, .int .i64 k, .int .i64 a, .int .i64 b] w fun e w' => e = .returned (.tuple #[.int .i64 (tru (!(blw k a b))), .int .i64 (1), .bool true]) ∧ Ext w w' := by
  go_enter Try.func81, Try.ntmps81
  go_wp2_with (first
    | (go_at_call 104; refine (bvGe_any _ _ _ _ _).mono ?_; rintro e w1 ⟨rfl, hx⟩; (first | (with_reducible obtain ⟨t1, rfl⟩ := Ext.tok2 hx) | (obtain ⟨t1, rfl⟩ := Ext.tok hx)))
    | (go_at_call 84; refine (bvRows_any _).mono ?_; rintro e w1 ⟨rfl, hx⟩; (first | (with_reducible obtain ⟨t0, rfl⟩ := Ext.tok2 hx) | (obtain ⟨t0, rfl⟩ := Ext.tok hx)))
    | (go_at_call 47; refine (bvIs_any _ _ _).mono ?_; rintro e w1 ⟨rfl, rfl⟩)
    | (go_at_call 85; refine (bvFits_any _ _ _).mono ?_; rintro e w1 ⟨rfl, rfl⟩)
    | (refine wpList_store_last rfl 142 (.tmp 11) (.tmp 15) rfl _ _ _ _ rfl rfl (by simp) (by kernel_rfl) (by kernel_rfl) (by kernel_rfl) ?_))
  ((first | (with_reducible refine region_ext2 (by kernel_rfl) (by kernel_rfl) ?_) | refine region_ext (by kernel_rfl) (by kernel_rfl) ?_); (repeat (go_big_quiet_step (fail))); refine wpQuiet_nil ?_; rintro _ ⟨t1, rfl⟩)
  go_wp2
  go_ret3
  exact ⟨rfl, (by repeat first | exact Ext.refl _ | assumption | refine Ext.drew ?_ | refine Ext.drewN ?_ _ | refine Ext.extBy ?_ _ | refine Ext.alloc ?_ _ | refine Ext.setCell ?_ (by simp; try omega) _ | (refine Ext.trans ?_ (by assumption)))⟩


theorem bvBin_any (op k a b : Int) (hb : I64 b) (w : World) :
    Calls Try.prog 81 #[.int .i64 op, .int .i64 k, .int .i64 a, .int .i64 b] w fun e w' => e = .returned (.tuple #[.int .i64 (binv op k a b).1, .int .i64 (binv op k a b).2.1, .bool (binv op k a b).2.2]) ∧ Ext w w' := by
  cases h1 : isk k a
  · rw [show binv op k a b = (0, 0, false) from by simp [binv, binOk, h1]]; exact bvBin_no1 k a b op h1 w
  cases h2 : isk k b
  · rw [show binv op k a b = (0, 0, false) from by simp [binv, binOk, h2]]; exact bvBin_no2 k a b op h1 h2 w
  by_cases h3 : op < 0
  · rw [show binv op k a b = (0, 0, false) from by simp [binv, binOk, Int.not_le.2 h3]]; exact bvBin_no3 k a b op h1 h2 h3 w
  by_cases h4 : 20 ≤ op
  · rw [show binv op k a b = (0, 0, false) from by simp [binv, binOk, opOf_big op.toNat (by omega), fits0]]; exact bvBin_no4 k a b op h1 h2 h3 h4 w
  have h5 : op = 0 ∨ op = 1 ∨ op = 2 ∨ op = 3 ∨ op = 4 ∨ op = 5 ∨ op = 6 ∨ op = 7 ∨ op = 8 ∨ op = 9 ∨ op = 10 ∨ op = 11 ∨ op = 12 ∨ op = 13 ∨ op = 14 ∨ op = 15 ∨ op = 16 ∨ op = 17 ∨ op = 18 ∨ op = 19 := by omega
  rcases h5 with rfl | rfl | rfl | rfl | rfl | rfl | rfl | rfl | rfl | rfl | rfl | rfl | rfl | rfl | rfl | rfl | rfl | rfl | rfl | rfl
  · rw [show binv 0 k a b = (0, 0, false) from by simp [binv, binOk, opOf, fits0]]; exact bvBin_nil0 k a b h1 h2 w
  · rw [show binv 1 k a b = (0, 0, false) from by simp [binv, binOk, opOf, fits0]]; exact bvBin_nil1 k a b h1 h2 w
  · rw [show binv 2 k a b = (0, 0, false) from by simp [binv, binOk, opOf, fits0]]; exact bvBin_nil2 k a b h1 h2 w
  · cases hf : fitsv 2 k
    · rw [show binv 3 k a b = (0, 0, false) from by simp [binv, binOk, opOf, hf]]; exact bvBin_bad3 k a b h1 h2 hf w
    · rw [show binv 3 k a b = (wkr k (wrap64 (a + b)), k, true) from by simp [binv, binOk, opOf, binr, h1, h2, hf]]; exact bvBin_op3 k a b h1 h2 hf w
  · cases hf : fitsv 2 k
    · rw [show binv 4 k a b = (0, 0, false) from by simp [binv, binOk, opOf, hf]]; exact bvBin_bad4 k a b h1 h2 hf w
    · rw [show binv 4 k a b = (wkr k (wrap64 (a - b)), k, true) from by simp [binv, binOk, opOf, binr, h1, h2, hf]]; exact bvBin_op4 k a b h1 h2 hf w
  · cases hf : fitsv 2 k
    · rw [show binv 5 k a b = (0, 0, false) from by simp [binv, binOk, opOf, hf]]; exact bvBin_bad5 k a b h1 h2 hf w
    · rw [show binv 5 k a b = (wkr k (wrap64 (a * b)), k, true) from by simp [binv, binOk, opOf, binr, h1, h2, hf]]; exact bvBin_op5 k a b h1 h2 hf w
  · cases hf : fitsv 2 k
    · rw [show binv 6 k a b = (0, 0, false) from by simp [binv, binOk, opOf, hf]]; exact bvBin_bad6 k a b h1 h2 hf w
    · rw [show binv 6 k a b = (wkr k (divv k a b), k, true) from by simp [binv, binOk, opOf, binr, h1, h2, hf]]; exact bvBin_op6 k a b h1 h2 hf hb w
  · cases hf : fitsv 2 k
    · rw [show binv 7 k a b = (0, 0, false) from by simp [binv, binOk, opOf, hf]]; exact bvBin_bad7 k a b h1 h2 hf w
    · rw [show binv 7 k a b = (wkr k (modv k a b), k, true) from by simp [binv, binOk, opOf, binr, h1, h2, hf]]; exact bvBin_op7 k a b h1 h2 hf hb w
  · cases hf : fitsv 3 k
    · rw [show binv 8 k a b = (0, 0, false) from by simp [binv, binOk, opOf, hf]]; exact bvBin_bad8 k a b h1 h2 hf w
    · rw [show binv 8 k a b = (wkr k (bits .and .i64 a b), k, true) from by simp [binv, binOk, opOf, binr, h1, h2, hf]]; exact bvBin_op8 k a b h1 h2 hf w
  · cases hf : fitsv 3 k
    · rw [show binv 9 k a b = (0, 0, false) from by simp [binv, binOk, opOf, hf]]; exact bvBin_bad9 k a b h1 h2 hf w
    · rw [show binv 9 k a b = (wkr k (bits .or .i64 a b), k, true) from by simp [binv, binOk, opOf, binr, h1, h2, hf]]; exact bvBin_op9 k a b h1 h2 hf w
  · cases hf : fitsv 3 k
    · rw [show binv 10 k a b = (0, 0, false) from by simp [binv, binOk, opOf, hf]]; exact bvBin_bad10 k a b h1 h2 hf w
    · rw [show binv 10 k a b = (wkr k (bits .xor .i64 a b), k, true) from by simp [binv, binOk, opOf, binr, h1, h2, hf]]; exact bvBin_op10 k a b h1 h2 hf w
  · cases hf : fitsv 1 k
    · rw [show binv 11 k a b = (0, 0, false) from by simp [binv, binOk, opOf, hf]]; exact bvBin_bad11 k a b h1 h2 hf w
    · rw [show binv 11 k a b = (tru (a == 0 || b != 0), 1, true) from by simp [binv, binOk, opOf, binr, h1, h2, hf]]; exact bvBin_op11 k a b h1 h2 hf w
  · cases hf : fitsv 2 k
    · rw [show binv 12 k a b = (0, 0, false) from by simp [binv, binOk, opOf, hf]]; exact bvBin_bad12 k a b h1 h2 hf w
    · rw [show binv 12 k a b = (wkr k (shlv k a k b), k, true) from by simp [binv, binOk, opOf, binr, h1, h2, hf]]; exact bvBin_op12 k a b h1 h2 hf w
  · cases hf : fitsv 2 k
    · rw [show binv 13 k a b = (0, 0, false) from by simp [binv, binOk, opOf, hf]]; exact bvBin_bad13 k a b h1 h2 hf w
    · rw [show binv 13 k a b = (wkr k (shrv k a k b), k, true) from by simp [binv, binOk, opOf, binr, h1, h2, hf]]; exact bvBin_op13 k a b h1 h2 hf w
  · cases hf : fitsv 3 k
    · rw [show binv 14 k a b = (0, 0, false) from by simp [binv, binOk, opOf, hf]]; exact bvBin_bad14 k a b h1 h2 hf w
    · rw [show binv 14 k a b = (tru (a == b), 1, true) from by simp [binv, binOk, opOf, binr, h1, h2, hf]]; exact bvBin_op14 k a b h1 h2 hf w
  · cases hf : fitsv 3 k
    · rw [show binv 15 k a b = (0, 0, false) from by simp [binv, binOk, opOf, hf]]; exact bvBin_bad15 k a b h1 h2 hf w
    · rw [show binv 15 k a b = (tru (a != b), 1, true) from by simp [binv, binOk, opOf, binr, h1, h2, hf]]; exact bvBin_op15 k a b h1 h2 hf w
  · cases hf : fitsv 2 k
    · rw [show binv 16 k a b = (0, 0, false) from by simp [binv, binOk, opOf, hf]]; exact bvBin_bad16 k a b h1 h2 hf w
    · rw [show binv 16 k a b = (tru (blw k a b), 1, true) from by simp [binv, binOk, opOf, binr, h1, h2, hf]]; exact bvBin_op16 k a b h1 h2 hf w
  · cases hf : fitsv 2 k
    · rw [show binv 17 k a b = (0, 0, false) from by simp [binv, binOk, opOf, hf]]; exact bvBin_bad17 k a b h1 h2 hf w
    · rw [show binv 17 k a b = (tru (!(blw k b a)), 1, true) from by simp [binv, binOk, opOf, binr, h1, h2, hf]]; exact bvBin_op17 k a b h1 h2 hf w
  · cases hf : fitsv 2 k
    · rw [show binv 18 k a b = (0, 0, false) from by simp [binv, binOk, opOf, hf]]; exact bvBin_bad18 k a b h1 h2 hf w
    · rw [show binv 18 k a b = (tru (blw k b a), 1, true) from by simp [binv, binOk, opOf, binr, h1, h2, hf]]; exact bvBin_op18 k a b h1 h2 hf w
  · cases hf : fitsv 2 k
    · rw [show binv 19 k a b = (0, 0, false) from by simp [binv, binOk, opOf, hf]]; exact bvBin_bad19 k a b h1 h2 hf w
    · rw [show binv 19 k a b = (tru (!(blw k a b)), 1, true) from by simp [binv, binOk, opOf, binr, h1, h2, hf]]; exact bvBin_op19 k a b h1 h2 hf w
end Go.Proofs.Ytmommjagndadjaa

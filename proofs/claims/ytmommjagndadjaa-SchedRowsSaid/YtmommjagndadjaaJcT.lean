/-
  Arguments that are rows of bools, or of numbers: how they lie in memory.
  No condition.
  Chains of memories: plain; what such a program tells.
  No condition.
  Two digits of a number below 100: the walk.
  Condition: the number is one.
  The walk: a name of two digits.
  Condition: the number is below 100.
  Rows of equations: plain.
  No condition.
-/
import Derived.Test.YtmommjagndadjaaJcA
import Derived.Test.YtmommjagndadjaaJcN
import Derived.Test.YtmommjagndadjaaJcS
namespace Go.Proofs.Ytmommjagndadjaa
open Go.RowKit Go.ChangeShapes Go.WideShapes Go.ChangeAt
set_option linter.unusedSimpArgs false
set_option linter.unusedVariables false
set_option maxRecDepth 100000

def boolsC (l : List Bool) : List Value := l.map Value.bool
theorem cellsBoolC : Try.prog.cellsOf 4 = 1 := by kernel_rfl
section
variable {H : Type} {enc : TypeId × Value → H} {W : World} {base base0 : Nat} {r : Reach} {sp : Nat → Bool} {held : Bool} {v : Value} {d : DataW H} {p : List MemPlace}
theorem open_boolsC (hval : Value.okWide Try.prog W r base0 54 v) (h : DataW.Trod enc Try.prog W base sp held 54 v d p) :
    ∃ l : List Bool, SlC W v l.length (boolsC l) := by
  obtain ⟨va, vm, vc, rfl⟩ := okWide_slice Try.underlying54 hval
  obtain ⟨fuel, h⟩ := h
  rcases Deep.open_slice1 Try.underlying54 cellsBoolC h with ⟨e1, -⟩ | ⟨a, len, cap, m, n, V, D, Pl, e1, hb, hl, hcm, hm, -, hel⟩
  · change [Value.slice va vm vc] = _ at e1
    simp only [List.cons.injEq, and_true] at e1
    rw [e1]
    exact ⟨[], ⟨none, 0, rfl, Nat.le_refl _, Nat.zero_le _, fun j u hu => by simp [boolsC] at hu⟩⟩
  · change [Value.slice va vm vc] = _ at e1
    simp only [List.cons.injEq, and_true] at e1
    rw [e1]
    have hlm : len ≤ m := by rw [hm]; split <;> omega
    have each : ∀ i, i < len → ∃ b : Bool, V i = .bool b := fun i hi => by
      obtain ⟨_, h2⟩ := hel i (by omega)
      obtain ⟨b, e, _⟩ := DataW.trod_bool Try.underlying4 h2
      simp only [List.cons.injEq, and_true] at e
      exact ⟨b, e⟩
    have hch : ∃ f : Nat → Bool, ∀ i, i < len → V i = .bool (f i) := by
      classical
      exact ⟨fun i => if hi : i < len then Classical.choose (each i hi) else false, fun i hi => by simp only [dif_pos hi]; exact Classical.choose_spec (each i hi)⟩
    obtain ⟨f, hf⟩ := hch
    refine ⟨(List.range len).map f, ?_⟩
    rw [show ((List.range len).map f).length = len by simp]
    refine slc_at hl hcm fun j u hu => ?_
    have hj : j < len := by have := (List.getElem?_eq_some_iff.1 hu).1; simpa [boolsC] using this
    rw [(hel j (by omega)).1]
    unfold boolsC at hu
    rw [List.getElem?_map, List.getElem?_map, List.getElem?_range hj] at hu
    simp only [Option.map_some] at hu
    rw [hf j hj]
    exact hu
theorem open_intsC (hval : Value.okWide Try.prog W r base0 36 v) (h : DataW.Trod enc Try.prog W base sp held 36 v d p) :
    ∃ l : List Int, SlC W v l.length (i64s l) ∧ ∀ n ∈ l, I64 n := by
  obtain ⟨va, vm, vc, rfl⟩ := okWide_slice Try.underlying36 hval
  obtain ⟨fuel, h⟩ := h
  change DataW.trod enc Try.prog W base sp held fuel 36 [.slice va vm vc] = _ at h
  obtain ⟨l, hl, hw⟩ := open_numbers Try.underlying36 Try.underlying3 cellsInt h
  exact ⟨l, hl, fun n hn => lit_I64 (hw n hn)⟩
end
end Go.Proofs.Ytmommjagndadjaa
namespace Go.Proofs.Ytmommjagndadjaa
open Go.RowKit Go.Maps
set_option linter.unusedSimpArgs false
set_option linter.unusedVariables false
set_option maxRecDepth 100000

def digN (i : Nat) : ByteArray := ⟨#[UInt8.ofNat (48 + i / 10), UInt8.ofNat (48 + i % 10)]⟩
def memN (i : Nat) : ByteArray := ⟨#[109, UInt8.ofNat (48 + i / 10), UInt8.ofNat (48 + i % 10)]⟩
def nextN (n i : Nat) : ByteArray := if i + 1 = n then nX else memN (i + 1)
def memQ (n i : Nat) : EQ := ⟨2, memN i, exZ, (i : Int) + 1, nextN n i, eB, 0, 0⟩
def memV (i : Nat) : VR := ⟨memN i, 2, []⟩
def memC (n : Nat) : CP := { ins := [⟨nX, 2, []⟩], outs := [memV 0], locals := (List.range' 1 (n - 1)).map memV, eqs := (List.range n).map (memQ n) }
def ordN (n : Nat) : List Int := (List.range n).map fun i : Nat => (i : Int)
theorem mem_all : ∀ k : Fin 31, k.val = 0 ∨ (chkC (memC k.val) = 0 ∧ okCb (memC k.val) = true ∧ smCb (memC k.val) = true ∧ sortV (hangsV (memC k.val)) = ordN k.val) := by decide +kernel
theorem memN_inj : ∀ i j : Fin 31, memN i.val = memN j.val → i = j := by decide +kernel
theorem memN_x : ∀ i : Fin 31, memN i.val ≠ nX := by decide +kernel
theorem clkT_nil {t : VT} (h : ∀ v ∈ t, v.clk = []) (n : ByteArray) : clkT t n = [] := by
  unfold clkT lookT
  cases hf : t.find? fun v => decide (v.name = n) with
  | none => rfl
  | some v => exact h v (List.mem_of_find?_eq_some hf)
theorem mem_clk (n : Nat) (m : ByteArray) : clkT (clksH (memC n)) m = [] := by
  refine clkT_nil (fun v hv => ?_) m
  unfold clksH CP.vars memC at hv
  simp only [List.mem_reverse, List.mem_append, List.mem_singleton, List.mem_map] at hv
  rcases hv with (rfl | rfl) | ⟨i, -, rfl⟩ <;> rfl
/-- What a tick's table tells, k memories being done. -/
structure MemT (v : Nat → Int) (x : Int) (k : Nat) (t : CE0) : Prop where
  x1 : hasR t nX = true
  x2 : getV t nX = x
  m : ∀ i, i < k → hasR t (memN i) = true ∧ getV t (memN i) = v i
theorem hasR_cons (a n : ByteArray) (v : Int) (t : CE0) : hasR ((a, v) :: t) n = (decide (a = n) || hasR t n) := by
  unfold hasR
  by_cases h : a = n
  · simp [h]
  · rw [List.find?_cons_of_neg (by simpa using h)]
    simp [h]
theorem MemT.put {v : Nat → Int} {x : Int} {k : Nat} {t : CE0} (h : MemT v x k t) (hk : k < 31) : MemT v x (k + 1) ((memN k, v k) :: t) := by
  refine ⟨by rw [hasR_cons, h.x1, Bool.or_true], by rw [getV_cons, if_neg (memN_x ⟨k, hk⟩)]; exact h.x2, fun i hi => ?_⟩
  rw [hasR_cons, getV_cons]
  by_cases e : i = k
  · subst e
    simp
  · have hne : memN k ≠ memN i := fun e2 => e (by have := memN_inj ⟨k, hk⟩ ⟨i, by omega⟩ e2; simp at this; omega)
    rw [if_neg hne]
    obtain ⟨h1, h2⟩ := h.m i (by omega)
    exact ⟨by rw [h1, Bool.or_true], h2⟩
theorem mem_step (n : Nat) (hn : n ≤ 30) (ms : MS) (tick : Int) (v : Nat → Int) (x : Int) (hv : ∀ i, i < n → (match ms.getD i none with | none => (i : Int) + 1 | some z => z) = v i) :
    ∀ (m k : Nat) (t : CE0), k + m = n → MemT v x k t → MemT v x n (stepQ (memC n) (kindT (clksH (memC n))) (clksH (memC n)) ms tick ((List.range' k m).map fun i : Nat => (i : Int)) t)
  | 0, k, t, hk, h => by
    obtain rfl : k = n := by omega
    exact h
  | m + 1, k, t, hk, h => by
    have hq : (memC n).eqs[(k : Int).toNat]? = some (memQ n k) := by
      rw [Int.toNat_natCast]
      unfold memC
      rw [List.getElem?_map, List.getElem?_range (by omega)]
      rfl
    rw [List.range'_succ, List.map_cons, stepQ, hq]
    simp only [mem_clk]
    have hd : defQ (kindT (clksH (memC n))) ms tick t (k : Int).toNat (memQ n k) = v k := by
      rw [← hv k (by omega), Int.toNat_natCast]
      unfold defQ
      rw [if_neg (by unfold memQ; simp), if_pos (show (memQ n k).form = 2 from rfl)]
      cases ms.getD k none with
      | none => rfl
      | some z => exact if_pos (.inl rfl)
    rw [hd]
    exact mem_step n hn ms tick v x hv m (k + 1) _ (by omega) (h.put (by omega))
theorem mem_tick {n : Nat} (hn : n ≤ 30) {ms : MS} (tick : Int) {v : Nat → Int} (x : Int) (hv : ∀ i, i < n → (match ms.getD i none with | none => (i : Int) + 1 | some z => z) = v i) :
    MemT v x n (tickC (memC n) (kindT (clksH (memC n))) (clksH (memC n)) (ordN n) ms tick [x]) := by
  unfold tickC ordN
  rw [List.range_eq_range']
  refine mem_step n hn ms tick v x hv n 0 _ (by omega) ⟨?_, ?_, fun i hi => by omega⟩
  · show hasR [(nX, x)] nX = true
    rw [hasR_cons]
    simp
  · show getV [(nX, x)] nX = x
    rw [getV_cons, if_pos rfl]
theorem mem_keep {n : Nat} (hn : 1 ≤ n) {ms : MS} (hl : ms.length = n) {v : Nat → Int} {x : Int} {t : CE0} (h : MemT v x n t) : (keepQ t (memC n).eqs ms).length = n ∧ ∀ i, i < n → (keepQ t (memC n).eqs ms).getD i none = some (if i + 1 = n then x else v (i + 1)) := by
  have he : (memC n).eqs.length = n := by simp [memC]
  refine ⟨by rw [keepQ_len _ _ _ (by rw [hl, he]), he], fun i hi => ?_⟩
  have hq : (memC n).eqs[i]? = some (memQ n i) := by
    unfold memC
    rw [List.getElem?_map, List.getElem?_range hi]
    rfl
  obtain ⟨m, hm⟩ : ∃ m, ms[i]? = some m := ⟨_, List.getElem?_eq_getElem (by omega)⟩
  rw [List.getD, keepQ_get t _ ms i _ m hq hm]
  show kmQ t (memQ n i) m = _
  unfold kmQ
  rw [if_pos ⟨rfl, (h.m i hi).1⟩]
  show (if hasR t (nextN n i) = true then some (getV t (nextN n i)) else none) = _
  unfold nextN
  by_cases e : i + 1 = n
  · rw [if_pos e, if_pos e, h.x1, h.x2]
    rfl
  · rw [if_neg e, if_neg e, (h.m (i + 1) (by omega)).1, (h.m (i + 1) (by omega)).2]
    rfl
theorem mem_go {n : Nat} (hn1 : 1 ≤ n) (hn : n ≤ 30) : ∀ (xs : List Int) (ms : MS) (tick : Int) (vs : List Int), ms.length = n → vs.length = n → (∀ i, i < n → (match ms.getD i none with | none => (i : Int) + 1 | some z => z) = vs.getD i 0) →
    goC (memC n) (kindT (clksH (memC n))) (clksH (memC n)) (ordN n) ms tick (onesC xs) = onesC ((vs ++ xs).take xs.length)
  | [], ms, tick, vs, _, _, _ => by simp [onesC, goC]
  | x :: xs, ms, tick, vs, hm, hl, hv => by
    have ht := mem_tick hn tick (v := fun i => vs.getD i 0) x hv
    have hr : onesC (x :: xs) = [x] :: onesC xs := rfl
    rw [hr, goC]
    obtain ⟨t, htt⟩ : ∃ t, t = tickC (memC n) (kindT (clksH (memC n))) (clksH (memC n)) (ordN n) ms tick [x] := ⟨_, rfl⟩
    rw [← htt] at ht ⊢
    obtain ⟨k1, k2⟩ := mem_keep hn1 hm ht
    obtain ⟨v0, vt, rfl⟩ : ∃ v0 vt, vs = v0 :: vt := by
      cases vs with
      | nil => simp at hl; omega
      | cons a b => exact ⟨a, b, rfl⟩
    have ho : ((memC n).outs.map fun v => getV t v.name) = [v0] := by
      show [getV t (memN 0)] = [v0]
      rw [(ht.m 0 (by omega)).2]
      rfl
    rw [ho, mem_go hn1 hn xs _ (tick + 1) (vt ++ [x]) k1 (by simp at hl ⊢; omega) (fun i hi => ?_)]
    · simp [onesC]
    · rw [k2 i hi]
      simp only [List.length_cons] at hl
      by_cases e : i + 1 = n
      · rw [if_pos e, List.getD, List.getElem?_append_right (by omega)]
        simp [show i - vt.length = 0 by omega]
      · rw [if_neg e]
        simp only [List.getD_cons_succ]
        rw [List.getD, List.getD, List.getElem?_append_left (by omega)]
theorem ones_ask : ∀ xs : List Int, (∀ x ∈ xs, isk 2 x = true) → askL [2] (onesC xs) = 0
  | [], _ => rfl
  | x :: xs, h => by
    have hr : onesC (x :: xs) = [x] :: onesC xs := rfl
    have h1 : askR [2] [x] = 0 := by
      unfold askR
      rw [if_neg (by simp)]
      unfold askZ
      rw [h x (by simp)]
      unfold askZ
      rfl
    rw [hr, askL, h1, if_neg (by simp), ones_ask xs (fun y hy => h y (by simp [hy]))]
def mem0 (n : Nat) : List Int := (List.range n).map fun i : Nat => (i : Int) + 1
theorem mem_run {n : Nat} (hn1 : 1 ≤ n) (hn : n ≤ 30) (xs : List Int) (hx : ∀ x ∈ xs, isk 2 x = true) (hl : xs.length ≤ 40) : runC (memC n) (onesC xs) = (0, onesC ((mem0 n ++ xs).take xs.length)) := by
  obtain ⟨h1, -, -, h4⟩ := (mem_all ⟨n, by omega⟩).resolve_left (by simp; omega)
  simp only at h1 h4
  unfold runC
  rw [h1, if_neg (by simp)]
  have h5 : askV ((memC n).ins.map VR.kind) (onesC xs) = 0 := by
    unfold askV
    rw [if_neg (by unfold onesC; simp; omega)]
    exact ones_ask xs hx
  rw [h5, if_neg (by simp), h4]
  have h6 := mem_go hn1 hn xs ((memC n).eqs.map fun _ => none) 0 (mem0 n) (by simp [memC]) (by simp [mem0]) (fun i hi => by
    have e1 : ((memC n).eqs.map fun _ => (none : Option Int)).getD i none = none := by
      rw [List.getD, List.getElem?_map]
      cases (memC n).eqs[i]? <;> rfl
    rw [e1]
    unfold mem0
    rw [List.getD, List.getElem?_map, List.getElem?_range hi]
    rfl)
  exact congrArg (Prod.mk 0) h6
end Go.Proofs.Ytmommjagndadjaa
namespace Go.Proofs.Ytmommjagndadjaa
open Go.RowKit Go.Maps
set_option linter.unusedSimpArgs false
set_option linter.unusedVariables false
set_option maxRecDepth 100000

abbrev dgs : ByteArray := ⟨#[48, 49, 50, 51, 52, 53, 54, 55, 56, 57]⟩
theorem dig_of : ∀ d r : Fin 10, dgs.extract d.val (d.val + 1) ++ dgs.extract r.val (r.val + 1) = ⟨#[UInt8.ofNat (48 + d.val), UInt8.ofNat (48 + r.val)]⟩ := by decide +kernel
set_option maxHeartbeats 4000000 in
theorem digits13_any (k : Nat) (hk : k < 100) (w : World) : Calls Try.prog 15 #[.int .i64 (k : Int)] w fun e w' => e = .returned (.string (digN k)) ∧ Hid (Ext w w') := by
  obtain ⟨Q, hQ⟩ : ∃ Q, Q = fun e w' => e = Ending.returned (.string (digN k)) ∧ Hid (Ext w w') := ⟨_, rfl⟩
  rw [← hQ]
  have HQ := Lib.hid hQ
  obtain ⟨d, hd⟩ : ∃ d : Nat, (k : Int) / 10 = (d : Int) := ⟨k / 10, by omega⟩
  obtain ⟨r, hr⟩ : ∃ r : Nat, (k : Int) % 10 = (r : Int) := ⟨k % 10, by omega⟩
  have hd1 : d < 10 := by omega
  have hr1 : r < 10 := by omega
  have HD := Lib.hid (And.intro hd hr)
  clear hQ
  go_enter Try.func15, Try.ntmps15
  go_upto_region 1 with fail
  (refine region_drew (by kernel_rfl) (by kernel_rfl) ?_; (repeat (go_big_quiet_step (fail))); refine wpQuiet_nil ?_; rintro _ ⟨nq, rfl⟩)
  have he : dgs.extract d (d + 1) ++ dgs.extract r (r + 1) = digN k := by
    have h1 := dig_of ⟨d, hd1⟩ ⟨r, hr1⟩
    have h2 := HD.out.1
    have h3 := HD.out.2
    unfold digN
    rw [show k / 10 = d by omega, show k % 10 = r by omega]
    exact h1
  go_wp2
  rw [HQ.out]
  exact ⟨by rw [he]; rfl, Lib.hid ((Ext.refl w).drewN nq)⟩
end Go.Proofs.Ytmommjagndadjaa
namespace Go.Proofs.Ytmommjagndadjaa.Sc
open Go.RowKit Go.Maps Go.Proofs.Ytmommjagndadjaa
set_option linter.unusedSimpArgs false
set_option linter.unusedVariables false
set_option maxRecDepth 100000

abbrev vB : ByteArray := ⟨#[118]⟩
def nameN (k : Nat) : ByteArray := ⟨#[118, UInt8.ofNat (48 + k / 10), UInt8.ofNat (48 + k % 10)]⟩
theorem name_of : ∀ d r : Fin 10, (vB ++ dgs.extract d.val (d.val + 1)) ++ dgs.extract r.val (r.val + 1) = ⟨#[118, UInt8.ofNat (48 + d.val), UInt8.ofNat (48 + r.val)]⟩ := by decide +kernel
set_option maxHeartbeats 4000000 in
theorem name15_any (k : Nat) (hk : k < 100) (w : World) : Calls Try.prog 10 #[.int .i64 (k : Int)] w fun e w' => e = .returned (.string (nameN k)) ∧ Hid (Ext w w') := by
  obtain ⟨Q, hQ⟩ : ∃ Q, Q = fun e w' => e = Ending.returned (.string (nameN k)) ∧ Hid (Ext w w') := ⟨_, rfl⟩
  rw [← hQ]
  have HQ := Lib.hid hQ
  obtain ⟨d, hd⟩ : ∃ d : Nat, (k : Int) / 10 = (d : Int) := ⟨k / 10, by omega⟩
  obtain ⟨r, hr⟩ : ∃ r : Nat, (k : Int) % 10 = (r : Int) := ⟨k % 10, by omega⟩
  have hd1 : d < 10 := by omega
  have hr1 : r < 10 := by omega
  have HD := Lib.hid (And.intro hd hr)
  clear hQ
  go_enter Try.func10, Try.ntmps10
  go_upto_region 1 with fail
  (refine region_drew (by kernel_rfl) (by kernel_rfl) ?_; (repeat (go_big_quiet_step (fail))); refine wpQuiet_nil ?_; rintro _ ⟨nq, rfl⟩)
  have he : (vB ++ dgs.extract d (d + 1)) ++ dgs.extract r (r + 1) = nameN k := by
    have h1 := name_of ⟨d, hd1⟩ ⟨r, hr1⟩
    have h2 := HD.out.1
    have h3 := HD.out.2
    unfold nameN
    rw [show k / 10 = d by omega, show k % 10 = r by omega]
    exact h1
  go_wp2
  rw [HQ.out]
  exact ⟨by rw [he]; rfl, Lib.hid ((Ext.refl w).drewN nq)⟩
end Go.Proofs.Ytmommjagndadjaa.Sc
namespace Go.Proofs.Ytmommjagndadjaa.Sc
open Go.RowKit Go.Maps Go.Proofs.Ytmommjagndadjaa
set_option linter.unusedSimpArgs false
set_option linter.unusedVariables false
set_option maxRecDepth 100000

def rowE (n : Nat) (row : Bool) (i : Nat) : CE := if row = true ∧ i + 1 < n then .mk 2 0 0 0 (nameN (i + 1)) [] else .mk 1 0 1 0 eB []
def rowsC (n : Nat) (row : Bool) : CP := ⟨[], [], (List.range n).map fun i => ⟨nameN i, 1, []⟩, (List.range n).map fun i => ⟨1, nameN i, rowE n row i, 0, eB, eB, 0, 0⟩⟩
def downN (n : Nat) : List Int := (List.range n).map fun (i : Nat) => (n : Int) - 1 - (i : Int)
def upN (n : Nat) : List Int := (List.range n).map fun (i : Nat) => (i : Int)
def rowOk (n : Nat) : Bool := okCb (rowsC n true) && smCb (rowsC n true) && decide (chkC (rowsC n true) = 0) && decide (sortV (hangsV (rowsC n true)) = downN n) && decide (levelsV (hangsV (rowsC n true)) = downN n)
def flatOk (n : Nat) : Bool := okCb (rowsC n false) && smCb (rowsC n false) && decide (chkC (rowsC n false) = 0) && decide (sortV (hangsV (rowsC n false)) = upN n) && decide (levelsV (hangsV (rowsC n false)) = List.replicate n 0)
end Go.Proofs.Ytmommjagndadjaa.Sc

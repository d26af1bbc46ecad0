/-
  Arguments that are rows of bools, or of numbers: how they lie in memory.
  No condition.
  Chains of memories: plain; what such a program tells.
  No condition.
  Two digits of a number below 100: the walk.
  Condition: the number is one.
  The law on what can be wrong with flat programs: plain; how the example lies in memory when some of it is turned.
  No condition.
  The law on what can be wrong with flat programs: its walk, some of its cases.
  No condition.
  The law on chains of memories: what it computes is true.
  No condition.
-/
import Derived.Test.YtmommjagndadjaaJcA
import Derived.Test.YtmommjagndadjaaJcN
import Derived.ArgAppend
import Derived.Deep.RegionLawGrows
namespace Go.Proofs.Ytmommjagndadjaa
open Go.RowKit Go.ChangeShapes Go.WideShapes Go.ChangeAt
set_option linter.unusedSimpArgs false
set_option linter.unusedVariables false
set_option maxRecDepth 100000

def boolsC (l : List Bool) : List Value := l.map Value.bool
theorem cellsBoolC : Try.prog.cellsOf 4 = 1 := by kernel_rfl
section
variable {H : Type} {enc : TypeId × Value → H} {W : World} {base base0 : Nat} {r : Reach} {sp : Nat → Bool} {held : Bool} {v : Value} {d : DataW H} {p : List MemPlace}
theorem open_boolsC (hval : Value.okWide Try.prog W r base0 54 v) (h : DataW.Trod enc Try.prog W base sp held 54 v d p) :
    ∃ l : List Bool, SlC W v l.length (boolsC l) := by
  obtain ⟨va, vm, vc, rfl⟩ := okWide_slice Try.underlying54 hval
  obtain ⟨fuel, h⟩ := h
  rcases Deep.open_slice1 Try.underlying54 cellsBoolC h with ⟨e1, -⟩ | ⟨a, len, cap, m, n, V, D, Pl, e1, hb, hl, hcm, hm, -, hel⟩
  · change [Value.slice va vm vc] = _ at e1
    simp only [List.cons.injEq, and_true] at e1
    rw [e1]
    exact ⟨[], ⟨none, 0, rfl, Nat.le_refl _, Nat.zero_le _, fun j u hu => by simp [boolsC] at hu⟩⟩
  · change [Value.slice va vm vc] = _ at e1
    simp only [List.cons.injEq, and_true] at e1
    rw [e1]
    have hlm : len ≤ m := by rw [hm]; split <;> omega
    have each : ∀ i, i < len → ∃ b : Bool, V i = .bool b := fun i hi => by
      obtain ⟨_, h2⟩ := hel i (by omega)
      obtain ⟨b, e, _⟩ := DataW.trod_bool Try.underlying4 h2
      simp only [List.cons.injEq, and_true] at e
      exact ⟨b, e⟩
    have hch : ∃ f : Nat → Bool, ∀ i, i < len → V i = .bool (f i) := by
      classical
      exact ⟨fun i => if hi : i < len then Classical.choose (each i hi) else false, fun i hi => by simp only [dif_pos hi]; exact Classical.choose_spec (each i hi)⟩
    obtain ⟨f, hf⟩ := hch
    refine ⟨(List.range len).map f, ?_⟩
    rw [show ((List.range len).map f).length = len by simp]
    refine slc_at hl hcm fun j u hu => ?_
    have hj : j < len := by have := (List.getElem?_eq_some_iff.1 hu).1; simpa [boolsC] using this
    rw [(hel j (by omega)).1]
    unfold boolsC at hu
    rw [List.getElem?_map, List.getElem?_map, List.getElem?_range hj] at hu
    simp only [Option.map_some] at hu
    rw [hf j hj]
    exact hu
theorem open_intsC (hval : Value.okWide Try.prog W r base0 36 v) (h : DataW.Trod enc Try.prog W base sp held 36 v d p) :
    ∃ l : List Int, SlC W v l.length (i64s l) ∧ ∀ n ∈ l, I64 n := by
  obtain ⟨va, vm, vc, rfl⟩ := okWide_slice Try.underlying36 hval
  obtain ⟨fuel, h⟩ := h
  change DataW.trod enc Try.prog W base sp held fuel 36 [.slice va vm vc] = _ at h
  obtain ⟨l, hl, hw⟩ := open_numbers Try.underlying36 Try.underlying3 cellsInt h
  exact ⟨l, hl, fun n hn => lit_I64 (hw n hn)⟩
end
end Go.Proofs.Ytmommjagndadjaa
namespace Go.Proofs.Ytmommjagndadjaa
open Go.RowKit Go.Maps
set_option linter.unusedSimpArgs false
set_option linter.unusedVariables false
set_option maxRecDepth 100000

def digN (i : Nat) : ByteArray := ⟨#[UInt8.ofNat (48 + i / 10), UInt8.ofNat (48 + i % 10)]⟩
def memN (i : Nat) : ByteArray := ⟨#[109, UInt8.ofNat (48 + i / 10), UInt8.ofNat (48 + i % 10)]⟩
def nextN (n i : Nat) : ByteArray := if i + 1 = n then nX else memN (i + 1)
def memQ (n i : Nat) : EQ := ⟨2, memN i, exZ, (i : Int) + 1, nextN n i, eB, 0, 0⟩
def memV (i : Nat) : VR := ⟨memN i, 2, []⟩
def memC (n : Nat) : CP := { ins := [⟨nX, 2, []⟩], outs := [memV 0], locals := (List.range' 1 (n - 1)).map memV, eqs := (List.range n).map (memQ n) }
def ordN (n : Nat) : List Int := (List.range n).map fun i : Nat => (i : Int)
theorem mem_all : ∀ k : Fin 31, k.val = 0 ∨ (chkC (memC k.val) = 0 ∧ okCb (memC k.val) = true ∧ smCb (memC k.val) = true ∧ sortV (hangsV (memC k.val)) = ordN k.val) := by decide +kernel
theorem memN_inj : ∀ i j : Fin 31, memN i.val = memN j.val → i = j := by decide +kernel
theorem memN_x : ∀ i : Fin 31, memN i.val ≠ nX := by decide +kernel
theorem clkT_nil {t : VT} (h : ∀ v ∈ t, v.clk = []) (n : ByteArray) : clkT t n = [] := by
  unfold clkT lookT
  cases hf : t.find? fun v => decide (v.name = n) with
  | none => rfl
  | some v => exact h v (List.mem_of_find?_eq_some hf)
theorem mem_clk (n : Nat) (m : ByteArray) : clkT (clksH (memC n)) m = [] := by
  refine clkT_nil (fun v hv => ?_) m
  unfold clksH CP.vars memC at hv
  simp only [List.mem_reverse, List.mem_append, List.mem_singleton, List.mem_map] at hv
  rcases hv with (rfl | rfl) | ⟨i, -, rfl⟩ <;> rfl
/-- What a tick's table tells, k memories being done. -/
structure MemT (v : Nat → Int) (x : Int) (k : Nat) (t : CE0) : Prop where
  x1 : hasR t nX = true
  x2 : getV t nX = x
  m : ∀ i, i < k → hasR t (memN i) = true ∧ getV t (memN i) = v i
theorem hasR_cons (a n : ByteArray) (v : Int) (t : CE0) : hasR ((a, v) :: t) n = (decide (a = n) || hasR t n) := by
  unfold hasR
  by_cases h : a = n
  · simp [h]
  · rw [List.find?_cons_of_neg (by simpa using h)]
    simp [h]
theorem MemT.put {v : Nat → Int} {x : Int} {k : Nat} {t : CE0} (h : MemT v x k t) (hk : k < 31) : MemT v x (k + 1) ((memN k, v k) :: t) := by
  refine ⟨by rw [hasR_cons, h.x1, Bool.or_true], by rw [getV_cons, if_neg (memN_x ⟨k, hk⟩)]; exact h.x2, fun i hi => ?_⟩
  rw [hasR_cons, getV_cons]
  by_cases e : i = k
  · subst e
    simp
  · have hne : memN k ≠ memN i := fun e2 => e (by have := memN_inj ⟨k, hk⟩ ⟨i, by omega⟩ e2; simp at this; omega)
    rw [if_neg hne]
    obtain ⟨h1, h2⟩ := h.m i (by omega)
    exact ⟨by rw [h1, Bool.or_true], h2⟩
theorem mem_step (n : Nat) (hn : n ≤ 30) (ms : MS) (tick : Int) (v : Nat → Int) (x : Int) (hv : ∀ i, i < n → (match ms.getD i none with | none => (i : Int) + 1 | some z => z) = v i) :
    ∀ (m k : Nat) (t : CE0), k + m = n → MemT v x k t → MemT v x n (stepQ (memC n) (kindT (clksH (memC n))) (clksH (memC n)) ms tick ((List.range' k m).map fun i : Nat => (i : Int)) t)
  | 0, k, t, hk, h => by
    obtain rfl : k = n := by omega
    exact h
  | m + 1, k, t, hk, h => by
    have hq : (memC n).eqs[(k : Int).toNat]? = some (memQ n k) := by
      rw [Int.toNat_natCast]
      unfold memC
      rw [List.getElem?_map, List.getElem?_range (by omega)]
      rfl
    rw [List.range'_succ, List.map_cons, stepQ, hq]
    simp only [mem_clk]
    have hd : defQ (kindT (clksH (memC n))) ms tick t (k : Int).toNat (memQ n k) = v k := by
      rw [← hv k (by omega), Int.toNat_natCast]
      unfold defQ
      rw [if_neg (by unfold memQ; simp), if_pos (show (memQ n k).form = 2 from rfl)]
      cases ms.getD k none with
      | none => rfl
      | some z => exact if_pos (.inl rfl)
    rw [hd]
    exact mem_step n hn ms tick v x hv m (k + 1) _ (by omega) (h.put (by omega))
theorem mem_tick {n : Nat} (hn : n ≤ 30) {ms : MS} (tick : Int) {v : Nat → Int} (x : Int) (hv : ∀ i, i < n → (match ms.getD i none with | none => (i : Int) + 1 | some z => z) = v i) :
    MemT v x n (tickC (memC n) (kindT (clksH (memC n))) (clksH (memC n)) (ordN n) ms tick [x]) := by
  unfold tickC ordN
  rw [List.range_eq_range']
  refine mem_step n hn ms tick v x hv n 0 _ (by omega) ⟨?_, ?_, fun i hi => by omega⟩
  · show hasR [(nX, x)] nX = true
    rw [hasR_cons]
    simp
  · show getV [(nX, x)] nX = x
    rw [getV_cons, if_pos rfl]
theorem mem_keep {n : Nat} (hn : 1 ≤ n) {ms : MS} (hl : ms.length = n) {v : Nat → Int} {x : Int} {t : CE0} (h : MemT v x n t) : (keepQ t (memC n).eqs ms).length = n ∧ ∀ i, i < n → (keepQ t (memC n).eqs ms).getD i none = some (if i + 1 = n then x else v (i + 1)) := by
  have he : (memC n).eqs.length = n := by simp [memC]
  refine ⟨by rw [keepQ_len _ _ _ (by rw [hl, he]), he], fun i hi => ?_⟩
  have hq : (memC n).eqs[i]? = some (memQ n i) := by
    unfold memC
    rw [List.getElem?_map, List.getElem?_range hi]
    rfl
  obtain ⟨m, hm⟩ : ∃ m, ms[i]? = some m := ⟨_, List.getElem?_eq_getElem (by omega)⟩
  rw [List.getD, keepQ_get t _ ms i _ m hq hm]
  show kmQ t (memQ n i) m = _
  unfold kmQ
  rw [if_pos ⟨rfl, (h.m i hi).1⟩]
  show (if hasR t (nextN n i) = true then some (getV t (nextN n i)) else none) = _
  unfold nextN
  by_cases e : i + 1 = n
  · rw [if_pos e, if_pos e, h.x1, h.x2]
    rfl
  · rw [if_neg e, if_neg e, (h.m (i + 1) (by omega)).1, (h.m (i + 1) (by omega)).2]
    rfl
theorem mem_go {n : Nat} (hn1 : 1 ≤ n) (hn : n ≤ 30) : ∀ (xs : List Int) (ms : MS) (tick : Int) (vs : List Int), ms.length = n → vs.length = n → (∀ i, i < n → (match ms.getD i none with | none => (i : Int) + 1 | some z => z) = vs.getD i 0) →
    goC (memC n) (kindT (clksH (memC n))) (clksH (memC n)) (ordN n) ms tick (onesC xs) = onesC ((vs ++ xs).take xs.length)
  | [], ms, tick, vs, _, _, _ => by simp [onesC, goC]
  | x :: xs, ms, tick, vs, hm, hl, hv => by
    have ht := mem_tick hn tick (v := fun i => vs.getD i 0) x hv
    have hr : onesC (x :: xs) = [x] :: onesC xs := rfl
    rw [hr, goC]
    obtain ⟨t, htt⟩ : ∃ t, t = tickC (memC n) (kindT (clksH (memC n))) (clksH (memC n)) (ordN n) ms tick [x] := ⟨_, rfl⟩
    rw [← htt] at ht ⊢
    obtain ⟨k1, k2⟩ := mem_keep hn1 hm ht
    obtain ⟨v0, vt, rfl⟩ : ∃ v0 vt, vs = v0 :: vt := by
      cases vs with
      | nil => simp at hl; omega
      | cons a b => exact ⟨a, b, rfl⟩
    have ho : ((memC n).outs.map fun v => getV t v.name) = [v0] := by
      show [getV t (memN 0)] = [v0]
      rw [(ht.m 0 (by omega)).2]
      rfl
    rw [ho, mem_go hn1 hn xs _ (tick + 1) (vt ++ [x]) k1 (by simp at hl ⊢; omega) (fun i hi => ?_)]
    · simp [onesC]
    · rw [k2 i hi]
      simp only [List.length_cons] at hl
      by_cases e : i + 1 = n
      · rw [if_pos e, List.getD, List.getElem?_append_right (by omega)]
        simp [show i - vt.length = 0 by omega]
      · rw [if_neg e]
        simp only [List.getD_cons_succ]
        rw [List.getD, List.getD, List.getElem?_append_left (by omega)]
theorem ones_ask : ∀ xs : List Int, (∀ x ∈ xs, isk 2 x = true) → askL [2] (onesC xs) = 0
  | [], _ => rfl
  | x :: xs, h => by
    have hr : onesC (x :: xs) = [x] :: onesC xs := rfl
    have h1 : askR [2] [x] = 0 := by
      unfold askR
      rw [if_neg (by simp)]
      unfold askZ
      rw [h x (by simp)]
      unfold askZ
      rfl
    rw [hr, askL, h1, if_neg (by simp), ones_ask xs (fun y hy => h y (by simp [hy]))]
def mem0 (n : Nat) : List Int := (List.range n).map fun i : Nat => (i : Int) + 1
theorem mem_run {n : Nat} (hn1 : 1 ≤ n) (hn : n ≤ 30) (xs : List Int) (hx : ∀ x ∈ xs, isk 2 x = true) (hl : xs.length ≤ 40) : runC (memC n) (onesC xs) = (0, onesC ((mem0 n ++ xs).take xs.length)) := by
  obtain ⟨h1, -, -, h4⟩ := (mem_all ⟨n, by omega⟩).resolve_left (by simp; omega)
  simp only at h1 h4
  unfold runC
  rw [h1, if_neg (by simp)]
  have h5 : askV ((memC n).ins.map VR.kind) (onesC xs) = 0 := by
    unfold askV
    rw [if_neg (by unfold onesC; simp; omega)]
    exact ones_ask xs hx
  rw [h5, if_neg (by simp), h4]
  have h6 := mem_go hn1 hn xs ((memC n).eqs.map fun _ => none) 0 (mem0 n) (by simp [memC]) (by simp [mem0]) (fun i hi => by
    have e1 : ((memC n).eqs.map fun _ => (none : Option Int)).getD i none = none := by
      rw [List.getD, List.getElem?_map]
      cases (memC n).eqs[i]? <;> rfl
    rw [e1]
    unfold mem0
    rw [List.getD, List.getElem?_map, List.getElem?_range hi]
    rfl)
  exact congrArg (Prod.mk 0) h6
end Go.Proofs.Ytmommjagndadjaa
namespace Go.Proofs.Ytmommjagndadjaa
open Go.RowKit Go.Maps
set_option linter.unusedSimpArgs false
set_option linter.unusedVariables false
set_option maxRecDepth 100000

abbrev dgs : ByteArray := ⟨#[48, 49, 50, 51, 52, 53, 54, 55, 56, 57]⟩
theorem dig_of : ∀ d r : Fin 10, dgs.extract d.val (d.val + 1) ++ dgs.extract r.val (r.val + 1) = ⟨#[UInt8.ofNat (48 + d.val), UInt8.ofNat (48 + r.val)]⟩ := by decide +kernel
set_option maxHeartbeats 4000000 in
theorem digits13_any (k : Nat) (hk : k < 100) (w : World) : Calls Try.prog 15 #[.int .i64 (k : Int)] w fun e w' => e = .returned (.string (digN k)) ∧ Hid (Ext w w') := by
  obtain ⟨Q, hQ⟩ : ∃ Q, Q = fun e w' => e = Ending.returned (.string (digN k)) ∧ Hid (Ext w w') := ⟨_, rfl⟩
  rw [← hQ]
  have HQ := Lib.hid hQ
  obtain ⟨d, hd⟩ : ∃ d : Nat, (k : Int) / 10 = (d : Int) := ⟨k / 10, by omega⟩
  obtain ⟨r, hr⟩ : ∃ r : Nat, (k : Int) % 10 = (r : Int) := ⟨k % 10, by omega⟩
  have hd1 : d < 10 := by omega
  have hr1 : r < 10 := by omega
  have HD := Lib.hid (And.intro hd hr)
  clear hQ
  go_enter Try.func15, Try.ntmps15
  go_upto_region 1 with fail
  (refine region_drew (by kernel_rfl) (by kernel_rfl) ?_; (repeat (go_big_quiet_step (fail))); refine wpQuiet_nil ?_; rintro _ ⟨nq, rfl⟩)
  have he : dgs.extract d (d + 1) ++ dgs.extract r (r + 1) = digN k := by
    have h1 := dig_of ⟨d, hd1⟩ ⟨r, hr1⟩
    have h2 := HD.out.1
    have h3 := HD.out.2
    unfold digN
    rw [show k / 10 = d by omega, show k % 10 = r by omega]
    exact h1
  go_wp2
  rw [HQ.out]
  exact ⟨by rw [he]; rfl, Lib.hid ((Ext.refl w).drewN nq)⟩
end Go.Proofs.Ytmommjagndadjaa
namespace Go.Proofs.Ytmommjagndadjaa
open Go.RowKit Go.Maps
set_option linter.unusedSimpArgs false
set_option linter.unusedVariables false
set_option maxRecDepth 100000

/-! ### Plain -/
abbrev nZ : ByteArray := ⟨#[122]⟩
abbrev nQ : ByteArray := ⟨#[113]⟩
abbrev sm0 : EQ := defE nY smEC
abbrev sm1 : EQ := memE nM 0 nY nR
abbrev wrE : CE := .mk 9 0 0 1 nR [exV nX]
abbrev wrG : CE := .mk 10 0 0 0 nR [wrE, .mk 1 0 2 5 eB []]
abbrev wrC (l : List EQ) : CP := { smallC with eqs := l }
abbrev wrO (v : VR) : CP := { smallC with outs := [v] }
abbrev wrL (l : List VR) : CP := { smallC with locals := l }
def wrongC : Nat → CP
  | 0 => smallC
  | 1 => wrL [⟨nM, 2, []⟩, ⟨nX, 2, []⟩]
  | 2 => wrC [sm0, sm1, sm0]
  | 3 => wrL [⟨nM, 10, []⟩]
  | 4 => wrC [defE nX smEC, sm1]
  | 5 => wrC [sm1]
  | 6 => wrC [⟨4, nY, smEC, 0, eB, eB, 0, 0⟩, sm1]
  | 7 => wrC [sm0, memE nM 200 nY nR]
  | 8 => wrC [defE nY (.mk 4 3 0 0 eB [exV nM]), sm1]
  | 9 => wrC [defE nY (.mk 4 14 0 0 eB [exV nM, exV nX]), sm1]
  | 10 => wrC [sm0, memE nM 0 nY nX]
  | 11 => wrC [sm0, memE nM 0 nR nR]
  | 12 => wrO ⟨nY, 2, [(nR, true)]⟩
  | 13 => wrL [⟨nM, 2, [(nR, true)]⟩]
  | 14 => wrC [defE nY wrE, sm1]
  | 15 => wrC [defE nY (exV nY), sm1]
  | 16 => { smallC with locals := [⟨nM, 2, []⟩, ⟨nZ, 2, []⟩], eqs := [defE nY (exV nZ), sm1, defE nZ (exV nY)] }
  | 17 => wrC [sm0, memE nM 0 nQ nR]
  | 18 => wrC [sm0, ⟨3, nM, exZ, 0, eB, eB, 0, 0⟩]
  | 19 => wrC [defE nY wrG, sm1]
  | 20 => wrC [sm0, ⟨3, nM, exZ, 0, eB, eB, 2, 0⟩]
  | _ => wrL [⟨nM, 2, [(nQ, true)]⟩]
def wantC : Nat → Int
  | 0 => 0 | 1 => 20 | 2 => 20 | 3 => 22 | 4 => 21 | 5 => 24 | 6 => 40 | 7 => 40 | 8 => 40 | 9 => 22 | 10 => 22 | 11 => 22 | 12 => 27 | 13 => 27 | 14 => 27 | 15 => 29 | 16 => 29 | 17 => 21 | 18 => 40 | 19 => 0 | 20 => 22 | _ => 21
theorem chk_wrongC : ∀ k : Fin 22, chkC (wrongC k.val) = wantC k.val := by decide +kernel
theorem ok_wrongB : ∀ k : Fin 22, okCb (wrongC k.val) = true := by decide +kernel
theorem sm_wrongB : ∀ k : Fin 22, smCb (wrongC k.val) = true := by decide +kernel
/-- What is asked of the checker at case k, and what it answers. -/
def AskC (k : Nat) (x : Int) : Prop := ∀ (w' : World) (y : S4), CPIn w' (wrongC k) y → Calls Try.prog 20 #[.agg #[y.iv, y.ov, y.lv, y.ev]] w' fun e w1 => e = .returned (.int .i64 x) ∧ Hid (Ext w' w1)
theorem ask_allC (k : Fin 22) : AskC k.val (wantC k.val) := fun w' y h => by
  have := ccheck_any (wrongC k.val) y w' h (okC_b (ok_wrongB k)) (smC_b (sm_wrongB k))
  rw [chk_wrongC k] at this
  exact this
abbrev wantA : Array Value := #[.int .i64 0, .int .i64 20, .int .i64 20, .int .i64 22, .int .i64 21, .int .i64 24, .int .i64 40, .int .i64 40, .int .i64 40, .int .i64 22, .int .i64 22, .int .i64 22, .int .i64 27, .int .i64 27, .int .i64 27, .int .i64 29, .int .i64 29, .int .i64 21, .int .i64 40, .int .i64 0, .int .i64 22, .int .i64 21]
theorem wantA_at : ∀ k : Fin 22, wantA[k.val]? = some (.int .i64 (wantC k.val)) := fun ⟨k, hk⟩ => by
  match k, hk with
  | 0, _ => rfl | 1, _ => rfl | 2, _ => rfl | 3, _ => rfl | 4, _ => rfl | 5, _ => rfl | 6, _ => rfl | 7, _ => rfl | 8, _ => rfl | 9, _ => rfl | 10, _ => rfl
  | 11, _ => rfl | 12, _ => rfl | 13, _ => rfl | 14, _ => rfl | 15, _ => rfl | 16, _ => rfl | 17, _ => rfl | 18, _ => rfl | 19, _ => rfl | 20, _ => rfl | 21, _ => rfl
  | k + 22, h => exact absurd h (by omega)
theorem want_at (w : World) (t : TypeId) (T : Nat) (h : w.heap[T]? = some (.cells wantA t (0, 0))) (k : Fin 22) : w.cell? ⟨T, k.val, none⟩ = some (.int .i64 (wantC k.val)) := by
  rw [cell_of_row w T k.val _ t (0, 0) h]
  exact wantA_at k
/-! ### In memory -/
abbrev smOs : Array Value := #[.string nY, .int .i64 2, NLc]
abbrev smLs : Array Value := #[.string nM, .int .i64 2, NLc]
structure LikeD (g : Nat) (os ls qs : Array Value) (w : World) : Prop where
  ins : w.heap[g]? = some (.cells #[.string nX, .int .i64 2, NLc, .string nR, .int .i64 1, NLc] 30 (0, 0))
  outs : w.heap[g + 1]? = some (.cells os 30 (0, 0))
  locals : w.heap[g + 2]? = some (.cells ls 30 (0, 0))
  kids : w.heap[g + 5]? = some (.cells #[.int .i64 2, .int .i64 0, .int .i64 0, .int .i64 0, .string nM, NLc, .int .i64 2, .int .i64 0, .int .i64 0, .int .i64 0, .string nX, NLc] 33 (0, 0))
  eqs : w.heap[g + 6]? = some (.cells qs 35 (0, 0))
section
variable {g : Nat} {os ls qs : Array Value} {w w' : World}
theorem LikeC.d (h : LikeC g qs w) : LikeD g smOs smLs qs w := ⟨h.ins, h.outs, h.locals, h.kids, h.eqs⟩
theorem LikeD.ext (h : LikeD g os ls qs w) (hx : Ext w w') : LikeD g os ls qs w' := ⟨ext_block hx h.ins, ext_block hx h.outs, ext_block hx h.locals, ext_block hx h.kids, ext_block hx h.eqs⟩
theorem LikeD.kb {S : List Nat} (h : LikeD g os ls qs w) (hk : Kb S w w') (hS : ∀ k ∈ S, g + 6 < k) : LikeD g os ls qs w' :=
  ⟨hk.heap (fun hm => by have := hS _ hm; omega) h.ins, hk.heap (fun hm => by have := hS _ hm; omega) h.outs, hk.heap (fun hm => by have := hS _ hm; omega) h.locals, hk.heap (fun hm => by have := hS _ hm; omega) h.kids, hk.heap (fun hm => by have := hS _ hm; omega) h.eqs⟩
theorem LikeD.oset (h : LikeD g os ls qs w) (j : Nat) (u : Value) : LikeD g (os.setIfInBounds j u) ls qs (w.setCell ⟨g + 1, j, none⟩ u) :=
  ⟨(heap_setCell_other _ _ _ _ (by simp)).trans h.ins, heap_setCell_same _ _ _ _ _ _ h.outs, (heap_setCell_other _ _ _ _ (by simp)).trans h.locals, (heap_setCell_other _ _ _ _ (by simp)).trans h.kids, (heap_setCell_other _ _ _ _ (by simp)).trans h.eqs⟩
theorem LikeD.lset (h : LikeD g os ls qs w) (j : Nat) (u : Value) : LikeD g os (ls.setIfInBounds j u) qs (w.setCell ⟨g + 2, j, none⟩ u) :=
  ⟨(heap_setCell_other _ _ _ _ (by simp)).trans h.ins, (heap_setCell_other _ _ _ _ (by simp)).trans h.outs, heap_setCell_same _ _ _ _ _ _ h.locals, (heap_setCell_other _ _ _ _ (by simp)).trans h.kids, (heap_setCell_other _ _ _ _ (by simp)).trans h.eqs⟩
theorem LikeD.qset (h : LikeD g os ls qs w) (j : Nat) (u : Value) : LikeD g os ls (qs.setIfInBounds j u) (w.setCell ⟨g + 6, j, none⟩ u) :=
  ⟨(heap_setCell_other _ _ _ _ (by simp)).trans h.ins, (heap_setCell_other _ _ _ _ (by simp)).trans h.outs, (heap_setCell_other _ _ _ _ (by simp)).trans h.locals, (heap_setCell_other _ _ _ _ (by simp)).trans h.kids, heap_setCell_same _ _ _ _ _ _ h.eqs⟩
theorem LikeD.cast {os' ls' qs' : Array Value} (h : LikeD g os ls qs w) (e1 : os = os') (e2 : ls = ls') (e3 : qs = qs') : LikeD g os' ls' qs' w := by subst e1 e2 e3; exact h
theorem LikeD.kin (h : LikeD g os ls qs w) (s : Int) : KIn w (.mk 4 s 0 0 eB [exV nM, exV nX]) (.slice (some ⟨g + 5, 0, none⟩) 2 2) := by
  refine KIn.of (kvs := [NLc, NLc]) ?_ (KsIn.consc (KIn.none _ _ _ _ _ _) (KsIn.consc (KIn.none _ _ _ _ _ _) (KsIn.nilc _)))
  exact SlC.blk h.kids 2 2 _ (by decide) (by decide) rfl
theorem LikeD.kin1 (h : LikeD g os ls qs w) : KIn w (.mk 4 3 0 0 eB [exV nM]) (.slice (some ⟨g + 5, 0, none⟩) 1 2) := by
  refine KIn.of (kvs := [NLc]) ?_ (KsIn.consc (KIn.none _ _ _ _ _ _) (KsIn.nilc _))
  refine ⟨_, 2, rfl, by decide, by decide, fun j u hu => ⟨g + 5, 0, rfl, ?_⟩⟩
  rw [Nat.zero_add, cell_of_row w (g + 5) j _ _ (0, 0) h.kids]
  have hj : j < 6 := (List.getElem?_eq_some_iff.1 hu).1
  rcases j with _ | _ | _ | _ | _ | _ | j
  all_goals first | exact hu | omega
theorem LikeD.insv (h : LikeD g os ls qs w) : VRIn w (.slice (some ⟨g, 0, none⟩) 2 2) smallC.ins := VRIn.blk (l := smallC.ins) h.ins (by decide) (by simp) rfl
theorem LikeD.outsv (h : LikeD g smOs ls qs w) : VRIn w (.slice (some ⟨g + 1, 0, none⟩) 1 1) smallC.outs := VRIn.blk (l := smallC.outs) h.outs (by decide) (by simp) rfl
theorem LikeD.localsv (h : LikeD g os smLs qs w) : VRIn w (.slice (some ⟨g + 2, 0, none⟩) 1 1) smallC.locals := VRIn.blk (l := smallC.locals) h.locals (by decide) (by simp) rfl
/-- Two equations in the example's block. -/
theorem LikeD.two (h : LikeD g os ls qs w) {q0 q1 : EQ} {v0 v1 : Value} (h0 : KIn w q0.e v0) (h1 : KIn w q1.e v1) (hq : qs.toList = qCells [q0, q1] [v0, v1]) : QIn w (.slice (some ⟨g + 6, 0, none⟩) 2 2) [q0, q1] :=
  QIn.blk (l := [q0, q1]) [v0, v1] h.eqs (show 2 ≤ maxLen by decide) rfl (fun i q kv e1 e2 => by
    rcases i with _ | _ | i
    · simp at e1 e2; subst e1 e2; exact h0
    · simp at e1 e2; subst e1 e2; exact h1
    · simp at e1) hq
/-- The example, its equations turned. -/
theorem LikeD.cp (h : LikeD g smOs smLs qs w) {q0 q1 : EQ} {v0 v1 : Value} (h0 : KIn w q0.e v0) (h1 : KIn w q1.e v1) (hq : qs.toList = qCells [q0, q1] [v0, v1]) : CPIn w (wrC [q0, q1]) (smX4 g) :=
  ⟨h.insv, h.outsv, h.localsv, h.two h0 h1 hq⟩
theorem LikeD.eqsv (h : LikeD g os ls (smQs g) w) : QIn w (.slice (some ⟨g + 6, 0, none⟩) 2 2) smallC.eqs := h.two (h.kin 3) (KIn.none _ _ _ _ _ _) rfl
/-- One variable in a block, its clock as it lies. -/
theorem VRIn.oneC {x : Nat} {n : ByteArray} {k : Int} {v : Value} {c : CK0} {t : TypeId} {fr : Nat × Nat} (h : w.heap[x]? = some (.cells #[.string n, .int .i64 k, v] t fr)) (hv : EdIn w v c) : VRIn w (.slice (some ⟨x, 0, none⟩) 1 1) [⟨n, k, c⟩] :=
  ⟨[v], rfl, SlC.blk h 1 1 _ (by decide) (by decide) rfl, fun i y q h1 h2 => by
    rcases i with _ | i
    · simp at h1 h2; subst h1 h2; exact hv
    · simp at h1⟩
theorem edIn_one {x : Nat} {n : ByteArray} {b : Bool} {t : TypeId} {fr : Nat × Nat} (h : w.heap[x]? = some (.cells #[.string n, .bool b] t fr)) : EdIn w (.slice (some ⟨x, 0, none⟩) 1 1) [(n, b)] := SlC.blk h 1 1 _ (by decide) (by decide) rfl
/-- One kid that is a name. -/
theorem kin_when {x : Nat} {n : ByteArray} {t : TypeId} {fr : Nat × Nat} (f s k m : Int) (nm : ByteArray) (h : w.heap[x]? = some (.cells #[.int .i64 2, .int .i64 0, .int .i64 0, .int .i64 0, .string n, NLc] t fr)) : KIn w (.mk f s k m nm [exV n]) (.slice (some ⟨x, 0, none⟩) 1 1) :=
  KIn.of (kvs := [NLc]) (SlC.blk h 1 1 _ (by decide) (by decide) rfl) (KsIn.consc (KIn.none _ _ _ _ _ _) (KsIn.nilc _))
end
set_option maxHeartbeats 4000000 in
theorem wrongC_out (k : Int) (hk : I64 k) (hbad : k < 0 ∨ 22 ≤ k) (w : World) : Calls Try.prog 6 #[.int .i64 k] w fun e w' => e = .returned (.bool true) ∧ Hid (Ext w w') := by
  obtain ⟨Q, hQ⟩ : ∃ Q, Q = fun e w' => e = Ending.returned (.bool true) ∧ Hid (Ext w w') := ⟨_, rfl⟩
  rw [← hQ]
  have HQ := Lib.hid hQ
  unfold I64 at hk
  clear hQ
  rcases hbad with hb | hb
  · go_enter Try.func6, Try.ntmps6
    go_wp2_with (first | (go_at_call 14; refine (alive13_any _).mono ?_; rintro e w1 ⟨rfl, H1⟩) | fail)
    rw [HQ.out]
    exact ⟨rfl, Lib.hid (H1.out.alloc _)⟩
  · have hb2 : ¬ k < 0 := by omega
    go_enter Try.func6, Try.ntmps6
    go_wp2_with (first | (go_at_call 14; refine (alive13_any _).mono ?_; rintro e w1 ⟨rfl, H1⟩) | fail)
    rw [HQ.out]
    exact ⟨rfl, Lib.hid (H1.out.alloc _)⟩
end Go.Proofs.Ytmommjagndadjaa
namespace Go.Proofs.Ytmommjagndadjaa
open Go.RowKit Go.Maps
set_option linter.unusedSimpArgs false
set_option linter.unusedVariables false
set_option maxRecDepth 100000

theorem hold_blk {w : World} {g : Nat} {arr : Array Value} {e : TypeId} {fr : Nat × Nat} (h : w.heap[g]? = some (.cells arr e fr)) : ∀ b, some (⟨g, 0, none⟩ : Addr) = some b → ∀ j u, arr.toList[j]? = some u → w.cell? (b.add j) = some u := by
  rintro b hb j u hu
  cases hb
  rw [show (⟨g, 0, none⟩ : Addr).add j = ⟨g, j, none⟩ by (have h0 : (⟨g, 0, none⟩ : Addr).add j = ⟨g, 0 + j, none⟩ := by (simp [Addr.add]; omega)); rw [h0, Nat.zero_add]]
  rw [cell_of_row w g j _ _ _ h]
  simpa using hu
theorem ext_grown {w w' : World} (h : w.grownBy w' none) : Ext w w' := (Kb.grown (S := []) h (fun g hg => by cases hg)).ext (Ext.refl w) (fun k hk => by cases hk)
abbrev zQc : Value := .agg #[.int .i64 0, .string eB, .int .i64 0, .int .i64 0, .int .i64 0, .int .i64 0, .string eB, NLc, .int .i64 0, .string eB, .string eB, .int .i64 0, .int .i64 0]
theorem infoEq : (Try.prog.info? 35).map (fun i => (i.zero, i.size, i.bytes)) = some (some zQc, 13, 152) := by kernel_rfl
theorem two_vars {w : World} {v : Value} {n m : ByteArray} {k k2 : Int} (h : SlC w v 2 [.string n, .int .i64 k, NLc, .string m, .int .i64 k2, NLc]) : VRIn w v [⟨n, k, []⟩, ⟨m, k2, []⟩] :=
  ⟨[NLc, NLc], rfl, h, fun i y q h1 h2 => by
    rcases i with _ | _ | i
    · simp at h1 h2; subst h1 h2; exact EdIn.nil w
    · simp at h1 h2; subst h1 h2; exact EdIn.nil w
    · simp at h1⟩
theorem three_eqs {w : World} {v v0 v1 v2 : Value} {q0 q1 q2 : EQ} (h0 : KIn w q0.e v0) (h1 : KIn w q1.e v1) (h2 : KIn w q2.e v2) (h : SlC w v 3 (qCells [q0, q1, q2] [v0, v1, v2])) : QIn w v [q0, q1, q2] :=
  ⟨[v0, v1, v2], rfl, fun i q kv e1 e2 => by
    rcases i with _ | _ | _ | i
    · simp at e1 e2; subst e1 e2; exact h0
    · simp at e1 e2; subst e1 e2; exact h1
    · simp at e1 e2; subst e1 e2; exact h2
    · simp at e1, h⟩
set_option maxHeartbeats 8000000 in
theorem wrongC_1 (w : World) : Calls Try.prog 6 #[.int .i64 ((1 : Nat) : Int)] w fun e w' => e = .returned (.bool true) ∧ Hid (Ext w w') := by
  obtain ⟨Q, hQ⟩ : ∃ Q, Q = fun e w' => e = Ending.returned (.bool true) ∧ Hid (Ext w w') := ⟨_, rfl⟩
  rw [← hQ]
  have HQ := Lib.hid hQ
  obtain ⟨x, hx⟩ : ∃ x, x = wantC 1 := ⟨_, rfl⟩
  have HA : Hid (AskC 1 x) := Lib.hid (by rw [hx]; exact ask_allC ⟨1, by omega⟩)
  have HX := Lib.hid hx
  clear hQ hx
  go_enter Try.func6, Try.ntmps6
  go_upto_region 7 with (first | (go_at_call 14; refine (alive13_any _).mono ?_; rintro e w1 ⟨rfl, H1⟩) | (go_at_call 18; refine (smallC_any _).mono ?_; rintro e w2 ⟨g, rfl, H2⟩) | (go_at_call 19; refine (var13_any _ _).mono ?_; rintro e w3 ⟨rfl, rfl⟩) | fail)
  obtain ⟨wa, hwa⟩ : ∃ z, z = w2.alloc (.cells (smCA g) 26) := ⟨_, rfl⟩
  have hea : Ext w wa := by rw [hwa]; exact ((H1.out.alloc _).trans H2.out.1).alloc _
  have hba : BoxV w2.heap.size (smCA g).toList wa := by rw [hwa]; exact BoxV.of_row (heap_alloc_last w2 _)
  have hla : LikeD g smOs smLs (smQs g) wa := by rw [hwa]; exact (H2.out.2.2.ext ((Ext.refl w2).alloc _)).d
  have hsa : wa.heap.size = w2.heap.size + 1 := by rw [hwa]; simp
  have hta : wa.cell? ⟨w1.heap.size, 1, none⟩ = some (.int .i64 x) := by
    rw [HX.out, hwa]
    exact (H2.out.1.alloc _).cell (want_at _ _ _ (heap_alloc_last w1 _) ⟨1, by omega⟩)
  rw [← hwa]
  have hgX : g + 6 < w2.heap.size := (Array.getElem?_eq_some_iff.1 H2.out.2.2.eqs).1
  have hTg : w1.heap.size < g := by
    have := H2.out.2.1
    simp at this
    omega
  have hwT := H1.out.size
  generalize w2.heap.size = X at hba hsa hgX ⊢
  generalize w1.heap.size = T at hta hTg hwT ⊢
  obtain ⟨wb, hwb⟩ : ∃ z, z = (wa.alloc (.cells #[.int .i64 2, .int .i64 0, .int .i64 0, .int .i64 0, .string nX, NLc] 33)).alloc (.cells #[.int .i64 2, .int .i64 0, .int .i64 0, .int .i64 0, .string nX, .slice none 0 0] 33) := ⟨_, rfl⟩
  have hxab : Ext wa wb := by rw [hwb]; exact ((Ext.refl wa).alloc _).alloc _
  have hby : BoxV (X + 1 + 1) [.int .i64 2, .int .i64 0, .int .i64 0, .int .i64 0, .string nX, NLc] wb := by
    rw [hwb]
    refine BoxV.of_row (e := 33) (cs := #[.int .i64 2, .int .i64 0, .int .i64 0, .int .i64 0, .string nX, NLc]) ?_
    exact heap_alloc_at _ _ _ (by simp [hsa])
  rw [← hwb]
  have HE : Hid (Ext w wb) := Lib.hid (hea.trans hxab)
  have hbx := hba.ext hxab
  have hlk := hla.ext hxab
  have htab := hxab.cell hta
  have HW : Hid (∀ k ∈ [X, g + 1, g + 2, g + 6], w.heap.size ≤ k ∧ T ≠ k) := Lib.hid (fun k hk => by
    simp only [List.mem_cons, List.not_mem_nil, or_false] at hk
    rcases hk with rfl | rfl | rfl | rfl <;> omega)
  have HLK := Lib.hid hlk
  have HBX := Lib.hid hbx
  have HBY := Lib.hid hby
  have HT := Lib.hid htab
  have x0 := hbx.cells 0 _ rfl
  have x1 := hbx.cells 1 _ rfl
  have x2 := hbx.cells 2 _ rfl
  have x3 := hbx.cells 3 _ rfl
  have xl := hbx.lt
  have xf := hbx.fz

  have n1 : ¬ (X = g + 6) := by omega
  have n2 : ¬ (g + 6 = X) := by omega
  have n3 : ¬ (X = g + 2) := by omega
  have n4 : ¬ (g + 2 = X) := by omega
  have n5 : ¬ (X = g + 1) := by omega
  have n6 : ¬ (g + 1 = X) := by omega
  clear hwa hea hba hla hsa hta hwb hxab hby hlk hbx htab H1 H2 hwT
  obtain ⟨i0, h0, hz⟩ := Option.map_eq_some_iff.1 infoVar
  simp only [Prod.mk.injEq] at hz
  obtain ⟨hz0, hz1, hz2⟩ := hz
  have hnew := hold_blk (heap_alloc_last wb (.cells #[.string nX, .int .i64 2, NLc] 30)) _ rfl
  have hhold := hold_blk (ext_block ((Ext.refl wb).alloc (.cells #[.string nX, .int .i64 2, NLc] 30)) HLK.out.locals)
  have hone : ∀ u ∈ [Value.string nX, .int .i64 2, NLc], u.oneCell' = true := by simp [Value.oneCell']
  have H00 := Lib.hid (And.intro h0 (And.intro hz0 (And.intro hz1 hz2)))
  have HNW := Lib.hid (And.intro hnew (And.intro hhold hone))
  clear h0 hz0 hz1 hz2 hnew hhold hone
  go_upto_region 10 with (first | (at_builtin; (refine wpList_append_grows _ rfl (.tmp 29) (.tmp 31) 23 rfl 30 i0 zV 3 48 Try.underlying23 H00.out.1 H00.out.2.1 H00.out.2.2.1 H00.out.2.2.2 rfl (by decide) (some ⟨g + 2, 0, none⟩) 1 1 smLs.toList rfl (fun h => by cases h) rfl HNW.out.2.1 ⟨wb.heap.size, 0, none⟩ 1 1 [.string nX, .int .i64 2, NLc] rfl rfl HNW.out.1 HNW.out.2.2 (by decide) (by decide) (by decide) ?_; intro v' w6 ho hg; obtain ⟨x9, y9, z9, rfl⟩ := own_slice3 ho; obtain rfl : y9 = 2 := (by obtain ⟨a', c', e, -⟩ := SlC.of_owns ho; simp at e; exact e.2.1); have HP := Lib.hid (And.intro ho (((Ext.refl wb).alloc _).trans (ext_grown hg))); have b6 := HBX.out.ext HP.out.2; have y0 := b6.cells 0 _ rfl; have y1 := b6.cells 1 _ rfl; have y2 := b6.cells 2 _ rfl; have y3 := b6.cells 3 _ rfl; have yl := b6.lt; have yf := b6.fz; clear ho hg b6)) | fail)
  have hks : Kb [X] w6 (w6.setCell ⟨X, 2, none⟩ (.slice x9 2 z9)) := Kb.set _ _ _ (by simp) _
  have hrow := hks.row HP.out.1 (fun q hq e => by
    simp at hq
    subst hq
    have := (HP.out.1.lt q e).1
    simp at this
    omega)
  have hl6 := (HLK.out.ext HP.out.2).kb hks (by simp; omega)
  have hkb : Kb [X, g + 1, g + 2, g + 6] wb (w6.setCell ⟨X, 2, none⟩ (.slice x9 2 z9)) := (Kb.of_ext HP.out.2).trans (hks.mono (by simp))
  have HKB := Lib.hid hkb
  have HS6 : Hid (CPIn (w6.setCell ⟨X, 2, none⟩ (.slice x9 2 z9)) (wrongC 1) ⟨.slice (some ⟨g, 0, none⟩) 2 2, .slice (some ⟨g + 1, 0, none⟩) 1 1, .slice x9 2 z9, .slice (some ⟨g + 6, 0, none⟩) 2 2⟩) := Lib.hid ⟨hl6.insv, hl6.outsv, two_vars (SlC.of_owns hrow), hl6.eqsv⟩
  clear hkb hrow hl6 hks x0 x1 x2 x3 xl xf
  go_upto_region 53 with (first | (go_at_call 20; refine (HA.out _ ⟨.slice (some ⟨g, 0, none⟩) 2 2, .slice (some ⟨g + 1, 0, none⟩) 1 1, .slice x9 2 z9, .slice (some ⟨g + 6, 0, none⟩) 2 2⟩ (HS6.out)).mono ?_; rintro e3 w3 ⟨rfl, H3⟩) | fail)
  have hfin : Ext w w3 := (HKB.out.ext HE.out (fun k hk => (HW.out k hk).1)).trans H3.out
  have t3 := H3.out.cell (HKB.out.cell (S := [X, g + 1, g + 2, g + 6]) (fun hm => (HW.out T hm).2 rfl) HT.out)
  have tl := World.block_lt_of_cell? _ _ t3
  clear y0 y1 y2 y3 yl yf HKB H3 HA HLK HBX HBY HE HW
  go_wp2_with (first | (refine region_drew (by kernel_rfl) (by kernel_rfl) ?_; (repeat (go_big_quiet_step (exact in_drew (num13_any _ _)))); refine wpQuiet_nil ?_; rintro _ ⟨nq, rfl⟩) | fail)
  rw [HQ.out]
  exact ⟨rfl, Lib.hid (by repeat first | exact Ext.refl _ | assumption | refine Ext.drew ?_ | refine Ext.drewN ?_ _ | refine Ext.extBy ?_ _ | refine Ext.alloc ?_ _ | refine Ext.setCell ?_ (by simp; try omega) _ | (refine Ext.trans ?_ (by assumption)))⟩
end Go.Proofs.Ytmommjagndadjaa
namespace Go.Proofs.Ytmommjagndadjaa
open Go.RowKit Go.Maps
set_option linter.unusedSimpArgs false
set_option linter.unusedVariables false
set_option maxRecDepth 100000

def im (n : Int) : Int := wrap64 (IntKind.i8.wrap n)
theorem im_eq (n : Int) : im n = wkr 2 n := rfl
theorem im_isk (n : Int) : isk 2 (im n) = true := by
  rw [im_eq]
  unfold isk
  rw [wkr_2, wkr_2, Bool.and_eq_true]
  refine ⟨by kernel_rfl, ?_⟩
  rw [beq_iff_eq]
  omega
theorem im_64 (n : Int) : I64 (im n) := by
  rw [im_eq, wkr_2]
  unfold I64
  omega
/-! ### The program in memory, under way -/
def mvC (k : Nat) : List Value := (List.range' 1 k).flatMap fun i => [.string (memN i), .int .i64 2, NLc]
def meC (n k : Nat) : List Value := (List.range k).flatMap fun i => [.int .i64 2, .string (memN i), .int .i64 0, .int .i64 0, .int .i64 0, .int .i64 0, .string eB, NLc, .int .i64 ((i : Int) + 1), .string (nextN n i), .string eB, .int .i64 0, .int .i64 0]
theorem mvC_succ (k : Nat) : mvC (k + 1) = mvC k ++ [.string (memN (k + 1)), .int .i64 2, NLc] := by
  unfold mvC
  rw [List.range'_1_concat, List.flatMap_append]
  simp [Nat.add_comm]
theorem meC_succ (n k : Nat) : meC n (k + 1) = meC n k ++ [.int .i64 2, .string (memN k), .int .i64 0, .int .i64 0, .int .i64 0, .int .i64 0, .string eB, NLc, .int .i64 ((k : Int) + 1), .string (nextN n k), .string eB, .int .i64 0, .int .i64 0] := by
  unfold meC
  rw [List.range_succ, List.flatMap_append]
  simp
theorem mvC_vr : ∀ l : List Nat, vrCells (l.map memV) (l.map fun _ => NLc) = l.flatMap fun i => [.string (memN i), .int .i64 2, NLc]
  | [] => rfl
  | i :: l => by rw [List.map_cons, List.map_cons, vrCells, mvC_vr l, List.flatMap_cons]; rfl
theorem meC_q (n : Nat) : ∀ l : List Nat, qCells (l.map (memQ n)) (l.map fun _ => NLc) = l.flatMap fun i : Nat => [.int .i64 2, .string (memN i), .int .i64 0, .int .i64 0, .int .i64 0, .int .i64 0, .string eB, NLc, .int .i64 ((i : Int) + 1), .string (nextN n i), .string eB, .int .i64 0, .int .i64 0]
  | [] => rfl
  | i :: l => by rw [List.map_cons, List.map_cons, qCells, meC_q n l, List.flatMap_cons]; rfl
theorem own_ne {w : World} {B1 B2 e1 e2 s1 s2 n1 n2 : Nat} {v1 v2 : Value} {xs1 xs2 : List Value} (h1 : w.ownsRow B1 e1 s1 v1 n1 xs1) (h2 : w.ownsRow B2 e2 s2 v2 n2 xs2) (hne : e1 ≠ e2) : ∀ g, v1.ownBlock = some g → v2.ownBlock ≠ some g := fun g hg hg2 => by
  obtain ⟨-, h1⟩ := h1
  obtain ⟨-, h2⟩ := h2
  rcases h1 with ⟨e, -⟩ | ⟨g1, c1, a1, rfl, -, k1, -⟩
  · rw [e] at hg; cases hg
  · rcases h2 with ⟨e, -⟩ | ⟨g2, c2, a2, rfl, -, k2, -⟩
    · rw [e] at hg2; cases hg2
    · simp only [Value.ownBlock, Option.some.injEq] at hg hg2
      subst hg hg2
      rw [k1] at k2
      simp at k2
      exact hne k2.2
structure MemB (W : World) (X g h B n jl j : Nat) (pl pe : Value) (w : World) : Prop where
  ext : Ext W w
  box : BoxV X [.slice (some ⟨g, 0, none⟩) 1 1, .slice (some ⟨h, 0, none⟩) 1 1, pl, pe] w
  ins : w.heap[g]? = some (.cells #[.string nX, .int .i64 2, NLc] 30 (0, 0))
  outs : w.heap[h]? = some (.cells #[.string (memN 0), .int .i64 2, NLc] 30 (0, 0))
  loc : w.ownsRow B 30 3 pl jl (mvC jl)
  eqs : w.ownsRow B 35 13 pe j (meC n j)
  lx : X < B
  lg : g < B
  lh : h < B
  gx : g ≠ X ∧ h ≠ X
  wx : W.heap.size ≤ B ∧ W.heap.size ≤ X
section
variable {W w w' : World} {X g h B n jl j : Nat} {pl pe pl2 pe2 : Value}
theorem MemB.next (m : MemB W X g h B n jl j pl pe w) (hx : Ext w w') : MemB W X g h B n jl j pl pe w' :=
  { m with ext := m.ext.trans hx, box := m.box.ext hx, ins := ext_block hx m.ins, outs := ext_block hx m.outs, loc := ownsRow_ext m.loc hx, eqs := ownsRow_ext m.eqs hx }
/-- Behind an append to one of the two lists: the box and what does not grow. -/
theorem MemB.grown (m : MemB W X g h B n jl j pl pe w) {v : Value} (hk : Kb v.ownBlock.toList w w') (hv : ∀ k, v.ownBlock = some k → B ≤ k) : Ext W w' ∧ BoxV X [.slice (some ⟨g, 0, none⟩) 1 1, .slice (some ⟨h, 0, none⟩) 1 1, pl, pe] w' ∧ w'.heap[g]? = some (.cells #[.string nX, .int .i64 2, NLc] 30 (0, 0)) ∧ w'.heap[h]? = some (.cells #[.string (memN 0), .int .i64 2, NLc] 30 (0, 0)) := by
  have h1 : ∀ k, k < B → k ∉ v.ownBlock.toList := fun k hk hm => by
    have := hv k (Option.mem_toList.1 hm)
    omega
  exact ⟨hk.ext m.ext (fun k hk => Nat.le_trans m.wx.1 (hv k (Option.mem_toList.1 hk))), m.box.kb hk (h1 X m.lx), hk.heap (h1 g m.lg) m.ins, hk.heap (h1 h m.lh) m.outs⟩
theorem MemB.setBox (hX : X < B) (hgx : g ≠ X ∧ h ≠ X) (hw : W.heap.size ≤ B ∧ W.heap.size ≤ X) (hg : g < B) (hh : h < B) (ex : Ext W w) (bx : BoxV X [.slice (some ⟨g, 0, none⟩) 1 1, .slice (some ⟨h, 0, none⟩) 1 1, pl, pe] w) (hi : w.heap[g]? = some (.cells #[.string nX, .int .i64 2, NLc] 30 (0, 0))) (ho : w.heap[h]? = some (.cells #[.string (memN 0), .int .i64 2, NLc] 30 (0, 0))) {i : Nat} {u : Value} (hb : [.slice (some ⟨g, 0, none⟩) 1 1, .slice (some ⟨h, 0, none⟩) 1 1, pl2, pe2] = [.slice (some ⟨g, 0, none⟩) 1 1, .slice (some ⟨h, 0, none⟩) 1 1, pl, pe].set i u)
    (hl : w.ownsRow B 30 3 pl2 jl (mvC jl)) (he : w.ownsRow B 35 13 pe2 j (meC n j)) : MemB W X g h B n jl j pl2 pe2 (w.setCell ⟨X, i, none⟩ u) := by
  have hk : Kb [X] w (w.setCell ⟨X, i, none⟩ u) := Kb.set _ _ _ (by simp) _
  refine ⟨hk.ext ex (by simp; exact hw.2), (bx.put i u).cast hb.symm, hk.heap (by simp; exact hgx.1) hi, hk.heap (by simp; exact hgx.2) ho, hk.row hl (fun q hq e => ?_), hk.row he (fun q hq e => ?_), hX, hg, hh, hgx, hw⟩
  · simp at hq; subst hq; have := (hl.lt q e).1; omega
  · simp at hq; subst hq; have := (he.lt q e).1; omega
end
theorem MemB.cp {W w : World} {X g h B n : Nat} {p1 p2 : Option Addr} {c1 c2 : Nat} (hn : 1 ≤ n) (m : MemB W X g h B n (n - 1) n (.slice p1 (n - 1) c1) (.slice p2 n c2) w) : CPIn w (memC n) ⟨.slice (some ⟨g, 0, none⟩) 1 1, .slice (some ⟨h, 0, none⟩) 1 1, .slice p1 (n - 1) c1, .slice p2 n c2⟩ where
  ins := VRIn.blk (l := [⟨nX, 2, []⟩]) m.ins (by decide) (by simp) rfl
  outs := VRIn.blk (l := [memV 0]) m.outs (by decide) (by simp [memV]) rfl
  locals := by
    have h1 := SlC.of_owns m.loc
    unfold mvC at h1
    rw [← mvC_vr] at h1
    refine ⟨(List.range' 1 (n - 1)).map fun _ => NLc, by simp [memC], ?_, fun i x q e1 e2 => ?_⟩
    · have e : (memC n).locals.length = n - 1 := by simp [memC]
      rw [e]
      exact h1
    · rw [List.getElem?_map] at e2
      cases hq : (List.range' 1 (n - 1))[i]? with
      | none => rw [hq] at e2; cases e2
      | some k =>
        rw [hq] at e2
        simp only [Option.map_some, Option.some.injEq] at e2
        subst e2
        have e3 : (memC n).locals[i]? = some (memV k) := by unfold memC; rw [List.getElem?_map, hq]; rfl
        rw [e3] at e1
        cases e1
        exact EdIn.nil w
  eqs := by
    have h1 := SlC.of_owns m.eqs
    unfold meC at h1
    rw [← meC_q] at h1
    refine ⟨(List.range n).map fun _ => NLc, by simp [memC], fun i q kv e1 e2 => ?_, ?_⟩
    · rw [List.getElem?_map] at e2
      cases hq : (List.range n)[i]? with
      | none => rw [hq] at e2; cases e2
      | some k =>
        rw [hq] at e2
        simp only [Option.map_some, Option.some.injEq] at e2
        subst e2
        have e3 : (memC n).eqs[i]? = some (memQ n k) := by unfold memC; rw [List.getElem?_map, hq]; rfl
        rw [e3] at e1
        cases e1
        exact KIn.none _ _ _ _ _ _
    · have e : (memC n).eqs.length = n := by simp [memC]
      rw [e]
      exact h1
theorem cat_mem : ∀ j : Fin 100, (⟨#[109]⟩ : ByteArray) ++ digN j.val = memN j.val := by decide +kernel
theorem dig_size : ∀ j : Fin 100, (digN j.val).size = 2 := by decide +kernel
theorem digits13_at (k : Nat) (hk : k < 100) (w : World) : Calls Try.prog 15 #[.int .i64 (k : Int)] w fun e w' => ∃ D, e = .returned (.string D) ∧ D.size = 2 ∧ (⟨#[109]⟩ : ByteArray) ++ D = memN k ∧ Hid (Ext w w') :=
  (digits13_any k hk w).mono fun e w' ⟨h1, h2⟩ => ⟨digN k, h1, dig_size ⟨k, hk⟩, cat_mem ⟨k, hk⟩, h2⟩
set_option maxHeartbeats 16000000 in
theorem coreMemories_any (n : Int) (l : List Int) (v : Value) (w : World) (hv : SlC w v l.length (i64s l)) : Calls Try.prog 4 #[.int .i64 n, v] w fun e w' => e = .returned (.bool true) ∧ Hid (Ext w w') := by
  obtain ⟨Q, hQ⟩ : ∃ Q, Q = fun e w' => e = Ending.returned (.bool true) ∧ Hid (Ext w w') := ⟨_, rfl⟩
  rw [← hQ]
  have HQ := Lib.hid hQ
  obtain ⟨p, cap, rfl, h1, h2, hc⟩ := id hv
  obtain ⟨L, hL⟩ : ∃ n, n = l.length := ⟨_, rfl⟩
  rw [← hL] at h1 ⊢
  have hcI : (cap : Int) ≤ 9223372036854775807 := by unfold maxLen at h2; omega
  have HN := Lib.hid (And.intro hL hc)
  clear hQ hv h2 hc hL
  go_enter Try.func4, Try.ntmps4
  go_upto_region 2 with (first | (go_at_call 14; refine (alive13_any _).mono ?_; rintro e1 w1 ⟨rfl, H1⟩) | fail)
  by_cases ha : n < 1
  case pos =>
    go_wp2
    rw [HQ.out]
    exact ⟨rfl, H1⟩
  case neg =>
  by_cases hb : n > 30
  case pos =>
    go_wp2
    rw [HQ.out]
    exact ⟨rfl, H1⟩
  case neg =>
  by_cases hn0 : 40 < L
  case pos =>
    have hn1 : (L : Int) > 40 := by omega
    go_wp2
    rw [HQ.out]
    exact ⟨rfl, H1⟩
  case neg =>
  have hn1 : ¬ (L : Int) > 40 := by omega
  have hn2 : L ≤ 40 := by omega
  clear hn0
  obtain ⟨N, rfl⟩ : ∃ m : Nat, n = (m : Int) := ⟨n.toNat, by omega⟩
  have hN1 : 1 ≤ N := by omega
  have hN2 : N ≤ 30 := by omega
  go_upto_region 5 with fail
  have hm0 : (⟨#[109, 48, 48]⟩ : ByteArray) = memN 0 := by decide
  obtain ⟨wb, hwb⟩ : ∃ z, z = ((w1.alloc (.cells #[.string nX, .int .i64 2, NLc] 30)).alloc (.cells #[.string ⟨#[109, 48, 48]⟩, .int .i64 2, NLc] 30)).alloc (.cells #[.slice (some ⟨w1.heap.size, 0, none⟩) 1 1, .slice (some ⟨w1.heap.size + 1, 0, none⟩) 1 1, NLc, NLc] 26) := ⟨_, rfl⟩
  have hmb : MemB w1 (w1.heap.size + 1 + 1) w1.heap.size (w1.heap.size + 1) (w1.heap.size + 1 + 1 + 1) N 0 0 NLc NLc wb := by
    rw [hwb]
    refine ⟨(((Ext.refl w1).alloc _).alloc _).alloc _, ?_, ?_, ?_, own_nil _ _ _ _, own_nil _ _ _ _, by omega, by omega, by omega, by omega, by omega⟩
    · refine BoxV.of_row (e := 26) (cs := #[.slice (some ⟨w1.heap.size, 0, none⟩) 1 1, .slice (some ⟨w1.heap.size + 1, 0, none⟩) 1 1, NLc, NLc]) ?_
      exact heap_alloc_at _ _ _ (by simp)
    · repeat (first | (refine heap_alloc_at _ _ _ ?_; simp; done) | (refine (Below.heap_alloc _ _ _ ?_).trans ?_; · (simp only [World.size_alloc]; omega)))
    · rw [← hm0]
      repeat (first | (refine heap_alloc_at _ _ _ ?_; simp; done) | (refine (Below.heap_alloc _ _ _ ?_).trans ?_; · (simp only [World.size_alloc]; omega)))
  have hsb : w1.heap.size + 1 + 1 + 1 ≤ wb.heap.size := by rw [hwb]; simp
  rw [← hwb]
  generalize w1.heap.size + 1 + 1 + 1 = B at hmb hsb
  generalize w1.heap.size + 1 + 1 = X at hmb ⊢
  generalize w1.heap.size + 1 = h at hmb ⊢
  generalize w1.heap.size = g at hmb ⊢
  have HMB := Lib.hid hmb
  clear hwb hmb hm0
  go_upto_region 6 with fail
  go_loopw [7] (fun i wr => ∃ (j : Nat) (p1 p2 : Option Addr) (c1 c2 : Nat), j ≤ N ∧ i = .int .i64 (j : Int) ∧ B ≤ wr.heap.size ∧ Hid (MemB w1 X g h B N (j - 1) j (.slice p1 (j - 1) c1) (.slice p2 j c2) wr)) (fun i _ => N - (intOf i).toNat)
  case atStart => exact ⟨0, none, none, 0, 0, Nat.zero_le _, rfl, hsb, HMB⟩
  case round =>
    obtain ⟨j, p1, p2, c1, c2, hj, rfl, hsr, HM⟩ := hrel
    by_cases hlt : j < N
    · have hji : (j : Int) < (N : Int) := Int.ofNat_lt.2 hlt
      have hd1 : Calls Try.prog 15 #[.int .i64 ((j : Int) + 1)] = Calls Try.prog 15 #[.int .i64 ((j + 1 : Nat) : Int)] := by rw [show ((j + 1 : Nat) : Int) = (j : Int) + 1 by omega]
      have HD1 := Lib.hid hd1
      clear hd1
      go_upto_region 10 with (first
        | (go_at_call 15; rw [HD1.out]; refine (digits13_at (j + 1) (by omega) _).mono ?_; rintro e3 w3 ⟨E, rfl, hE1, hE2, H3⟩)
        | (go_at_call 15; refine (digits13_at j (by omega) _).mono ?_; rintro e2 w2 ⟨D, rfl, hD1, hD2, H2⟩) | fail)
      have HM3 : Hid (MemB w1 X g h B N (j - 1) j (.slice p1 (j - 1) c1) (.slice p2 j c2) w3) := Lib.hid (HM.out.next (H2.out.trans H3.out))
      have b0 := HM3.out.box.cells 0 _ rfl
      have b1 := HM3.out.box.cells 1 _ rfl
      have b2 := HM3.out.box.cells 2 _ rfl
      have b3 := HM3.out.box.cells 3 _ rfl
      have bl := HM3.out.box.lt
      have bf := HM3.out.box.fz
      have hs3 : B ≤ w3.heap.size := Nat.le_trans hsr (H2.out.trans H3.out).size
      clear HD1 hD1 hD2 hE1 hE2 HM H2 H3
      by_cases hlst : j + 1 = N
      · have hl0 : ((j : Int) + 1 == (N : Int)) = true := by simp; omega
        have hNX : nX = nextN N j := by unfold nextN; rw [if_pos (by omega)]
        have HNX := Lib.hid hNX

        obtain ⟨M, hM⟩ : ∃ z, z = memN j := ⟨_, rfl⟩
        rw [← hM]
        have HMM := Lib.hid hM
        clear hM
        go_upto_region 12 with fail
        clear hNX hlst
        by_cases hz : j = 0
        · obtain rfl : j = 0 := by omega
          go_upto_region 14 with fail
          have HA : Hid (MemB w1 X g h B N 0 0 (.slice p1 0 c1) (.slice p2 0 c2) w3) := HM3
          clear b0 b1 b2 b3 bl bf
          obtain ⟨wa, hwa⟩ : ∃ z, z = w3 := ⟨_, rfl⟩
          subst hwa
          have b3 := HA.out.box.cells 3 _ rfl
          have bl := HA.out.box.lt
          have bf := HA.out.box.fz
          go_wp2_with (first | (at_builtin; (refine wpList_append_slc _ rfl (.tmp 64) (.tmp 70) 24 rfl B 35 zQc 13 152 Try.underlying24 infoEq rfl (by decide) (.slice p2 0 c2) (0) (meC N 0) rfl (ownsRow_ext HA.out.eqs (by repeat first | exact Ext.refl _ | assumption | refine Ext.drew ?_ | refine Ext.drewN ?_ _ | refine Ext.extBy ?_ _ | refine Ext.alloc ?_ _ | refine Ext.setCell ?_ (by simp; try omega) _ | (refine Ext.trans ?_ (by assumption)))) _ 1 [.int .i64 2, .string M, .int .i64 0, .int .i64 0, .int .i64 0, .int .i64 0, .string eB, NLc, .int .i64 (1), .string nX, .string eB, .int .i64 0, .int .i64 0] rfl (SlC.fresh _ #[.int .i64 2, .string M, .int .i64 0, .int .i64 0, .int .i64 0, .int .i64 0, .string eB, NLc, .int .i64 (1), .string nX, .string eB, .int .i64 0, .int .i64 0] _ 1 _ (by simp) (by decide)) rfl (by simp [Value.oneCell']) (by unfold maxLen; omega) (by omega) (by simp; omega) ?_; intro v7 w8 hown9 hg9 hat9; obtain ⟨x8, y8, z8, rfl⟩ := own_slice3 hown9; have HP8 := Lib.hid (And.intro hown9 hg9); clear hown9 hg9 hat9; have hk8 : Kb (Value.ownBlock (.slice p2 0 c2)).toList wa w8 := (Kb.of_ext ((Ext.refl wa).alloc _)).trans (Kb.grown HP8.out.2 (fun g hg => Option.mem_toList.2 hg)); have hb8 := (HA.out.grown hk8 (fun k hk => (HA.out.eqs.lt k hk).1)).2.1; have u3 := hb8.cells 3 _ rfl; have ul := hb8.lt; have uf := hb8.fz; have HK8 := Lib.hid hk8; clear hb8 hk8)) | fail)
          obtain rfl : y8 = 0 + 1 := by
            obtain ⟨a', c', e, -⟩ := SlC.of_owns HP8.out.1
            simp only [Value.slice.injEq] at e
            omega
          have hMB : MemB w1 X g h B N 0 (0 + 1) (.slice p1 0 c1) (.slice x8 (0 + 1) z8) (w8.setCell ⟨X, 3, none⟩ (.slice x8 (0 + 1) z8)) := by
            obtain ⟨g1, g2, g3, g4⟩ := HA.out.grown HK8.out (fun k hk => (HA.out.eqs.lt k hk).1)
            have ho := HP8.out.1
            rw [HMM.out, HNX.out, show (1 : Int) = ((0 : Nat) : Int) + 1 from rfl, ← meC_succ] at ho
            exact MemB.setBox HA.out.lx HA.out.gx HA.out.wx HA.out.lg HA.out.lh g1 g2 g3 g4 rfl (HK8.out.row HA.out.loc (fun k hk e => own_ne HA.out.loc HA.out.eqs (by decide) k e (Option.mem_toList.1 hk))) ho
          have hsz : B ≤ (w8.setCell ⟨X, 3, none⟩ (.slice x8 (0 + 1) z8)).heap.size := by
            have := HK8.out.size
            simp
            omega
          exact ⟨⟨0 + 1, _, _, _, _, by omega, by go_num, hsz, Lib.hid hMB⟩, by simp [intOf]; omega⟩
        · have hj0 : (j : Int) > 0 := by omega
          go_upto_region 14 with (first | (at_builtin; (refine wpList_append_slc _ rfl (.tmp 57) (.tmp 60) 23 rfl B 30 zV 3 48 Try.underlying23 infoVar rfl (by decide) (.slice p1 (j - 1) c1) (j - 1) (mvC (j - 1)) rfl (ownsRow_ext HM3.out.loc (by repeat first | exact Ext.refl _ | assumption | refine Ext.drew ?_ | refine Ext.drewN ?_ _ | refine Ext.extBy ?_ _ | refine Ext.alloc ?_ _ | refine Ext.setCell ?_ (by simp; try omega) _ | (refine Ext.trans ?_ (by assumption)))) _ 1 [.string M, .int .i64 2, NLc] rfl (SlC.fresh _ #[.string M, .int .i64 2, NLc] _ 1 _ (by simp) (by decide)) rfl (by simp [Value.oneCell']) (by unfold maxLen; omega) (by omega) (by simp; omega) ?_; intro v9 w9 hown9 hg9 hat9; obtain ⟨x9, y9, z9, rfl⟩ := own_slice3 hown9; have HP9 := Lib.hid (And.intro hown9 hg9); clear hown9 hg9 hat9; have hk9 : Kb (Value.ownBlock (.slice p1 (j - 1) c1)).toList w3 w9 := (Kb.of_ext ((Ext.refl w3).alloc _)).trans (Kb.grown HP9.out.2 (fun g hg => Option.mem_toList.2 hg)); have hb9 := (HM3.out.grown hk9 (fun k hk => (HM3.out.loc.lt k hk).1)).2.1; have y2 := hb9.cells 2 _ rfl; have yl := hb9.lt; have yf := hb9.fz; have HK9 := Lib.hid hk9; clear hb9 hk9)) | fail)
          obtain rfl : y9 = j := by
            obtain ⟨a', c', e, -⟩ := SlC.of_owns HP9.out.1
            simp only [Value.slice.injEq] at e
            omega
          have hMA : MemB w1 X g h B N y9 y9 (.slice x9 y9 z9) (.slice p2 y9 c2) (w9.setCell ⟨X, 2, none⟩ (.slice x9 y9 z9)) := by
            obtain ⟨g1, g2, g3, g4⟩ := HM3.out.grown HK9.out (fun k hk => (HM3.out.loc.lt k hk).1)
            have ho := HP9.out.1
            have e : y9 - 1 + 1 = y9 := by omega
            have e2 := mvC_succ (y9 - 1)
            rw [e] at e2
            rw [HMM.out, ← e2, e] at ho
            exact MemB.setBox HM3.out.lx HM3.out.gx HM3.out.wx HM3.out.lg HM3.out.lh g1 g2 g3 g4 rfl ho (HK9.out.row HM3.out.eqs (fun k hk e => own_ne HM3.out.eqs HM3.out.loc (by decide) k e (Option.mem_toList.1 hk)))
          have hsa : B ≤ (w9.setCell ⟨X, 2, none⟩ (.slice x9 y9 z9)).heap.size := by
            have := HK9.out.size
            simp
            omega
          clear y2 yl yf b0 b1 b2 b3 bl bf
          generalize (w9.setCell ⟨X, 2, none⟩ (.slice x9 y9 z9)) = wa at hMA hsa ⊢
          have HA := Lib.hid hMA
          clear hMA
          obtain ⟨j, hjj⟩ : ∃ z, z = y9 := ⟨_, rfl⟩
          subst hjj
          have b3 := HA.out.box.cells 3 _ rfl
          have bl := HA.out.box.lt
          have bf := HA.out.box.fz
          go_wp2_with (first | (at_builtin; (refine wpList_append_slc _ rfl (.tmp 64) (.tmp 70) 24 rfl B 35 zQc 13 152 Try.underlying24 infoEq rfl (by decide) (.slice p2 j c2) (j) (meC N j) rfl (ownsRow_ext HA.out.eqs (by repeat first | exact Ext.refl _ | assumption | refine Ext.drew ?_ | refine Ext.drewN ?_ _ | refine Ext.extBy ?_ _ | refine Ext.alloc ?_ _ | refine Ext.setCell ?_ (by simp; try omega) _ | (refine Ext.trans ?_ (by assumption)))) _ 1 [.int .i64 2, .string M, .int .i64 0, .int .i64 0, .int .i64 0, .int .i64 0, .string eB, NLc, .int .i64 ((j : Int) + 1), .string nX, .string eB, .int .i64 0, .int .i64 0] rfl (SlC.fresh _ #[.int .i64 2, .string M, .int .i64 0, .int .i64 0, .int .i64 0, .int .i64 0, .string eB, NLc, .int .i64 ((j : Int) + 1), .string nX, .string eB, .int .i64 0, .int .i64 0] _ 1 _ (by simp) (by decide)) rfl (by simp [Value.oneCell']) (by unfold maxLen; omega) (by omega) (by simp; omega) ?_; intro v7 w8 hown9 hg9 hat9; obtain ⟨x8, y8, z8, rfl⟩ := own_slice3 hown9; have HP8 := Lib.hid (And.intro hown9 hg9); clear hown9 hg9 hat9; have hk8 : Kb (Value.ownBlock (.slice p2 j c2)).toList wa w8 := (Kb.of_ext ((Ext.refl wa).alloc _)).trans (Kb.grown HP8.out.2 (fun g hg => Option.mem_toList.2 hg)); have hb8 := (HA.out.grown hk8 (fun k hk => (HA.out.eqs.lt k hk).1)).2.1; have u3 := hb8.cells 3 _ rfl; have ul := hb8.lt; have uf := hb8.fz; have HK8 := Lib.hid hk8; clear hb8 hk8)) | fail)
          obtain rfl : y8 = j + 1 := by
            obtain ⟨a', c', e, -⟩ := SlC.of_owns HP8.out.1
            simp only [Value.slice.injEq] at e
            omega
          have hMB : MemB w1 X g h B N j (j + 1) (.slice x9 j z9) (.slice x8 (j + 1) z8) (w8.setCell ⟨X, 3, none⟩ (.slice x8 (j + 1) z8)) := by
            obtain ⟨g1, g2, g3, g4⟩ := HA.out.grown HK8.out (fun k hk => (HA.out.eqs.lt k hk).1)
            have ho := HP8.out.1
            rw [HMM.out, HNX.out, ← meC_succ] at ho
            exact MemB.setBox HA.out.lx HA.out.gx HA.out.wx HA.out.lg HA.out.lh g1 g2 g3 g4 rfl (HK8.out.row HA.out.loc (fun k hk e => own_ne HA.out.loc HA.out.eqs (by decide) k e (Option.mem_toList.1 hk))) ho
          have hsz : B ≤ (w8.setCell ⟨X, 3, none⟩ (.slice x8 (j + 1) z8)).heap.size := by
            have := HK8.out.size
            simp
            omega
          exact ⟨⟨j + 1, _, _, _, _, by omega, by go_num, hsz, Lib.hid hMB⟩, by simp [intOf]; omega⟩
      · have hl0 : ((j : Int) + 1 == (N : Int)) = false := by simp; omega
        obtain ⟨NX, hNX⟩ : ∃ z, z = nextN N j := ⟨_, rfl⟩
        have HNX := Lib.hid hNX
        have hx9 : memN (j + 1) = NX := by rw [hNX]; unfold nextN; rw [if_neg (by omega)]
        rw [hx9]
        clear hx9
        obtain ⟨M, hM⟩ : ∃ z, z = memN j := ⟨_, rfl⟩
        rw [← hM]
        have HMM := Lib.hid hM
        clear hM
        go_upto_region 12 with fail

        clear hNX hlst
        by_cases hz : j = 0
        · obtain rfl : j = 0 := by omega
          go_upto_region 14 with fail
          have HA : Hid (MemB w1 X g h B N 0 0 (.slice p1 0 c1) (.slice p2 0 c2) w3) := HM3
          clear b0 b1 b2 b3 bl bf
          obtain ⟨wa, hwa⟩ : ∃ z, z = w3 := ⟨_, rfl⟩
          subst hwa
          have b3 := HA.out.box.cells 3 _ rfl
          have bl := HA.out.box.lt
          have bf := HA.out.box.fz
          go_wp2_with (first | (at_builtin; (refine wpList_append_slc _ rfl (.tmp 64) (.tmp 70) 24 rfl B 35 zQc 13 152 Try.underlying24 infoEq rfl (by decide) (.slice p2 0 c2) (0) (meC N 0) rfl (ownsRow_ext HA.out.eqs (by repeat first | exact Ext.refl _ | assumption | refine Ext.drew ?_ | refine Ext.drewN ?_ _ | refine Ext.extBy ?_ _ | refine Ext.alloc ?_ _ | refine Ext.setCell ?_ (by simp; try omega) _ | (refine Ext.trans ?_ (by assumption)))) _ 1 [.int .i64 2, .string M, .int .i64 0, .int .i64 0, .int .i64 0, .int .i64 0, .string eB, NLc, .int .i64 (1), .string NX, .string eB, .int .i64 0, .int .i64 0] rfl (SlC.fresh _ #[.int .i64 2, .string M, .int .i64 0, .int .i64 0, .int .i64 0, .int .i64 0, .string eB, NLc, .int .i64 (1), .string NX, .string eB, .int .i64 0, .int .i64 0] _ 1 _ (by simp) (by decide)) rfl (by simp [Value.oneCell']) (by unfold maxLen; omega) (by omega) (by simp; omega) ?_; intro v7 w8 hown9 hg9 hat9; obtain ⟨x8, y8, z8, rfl⟩ := own_slice3 hown9; have HP8 := Lib.hid (And.intro hown9 hg9); clear hown9 hg9 hat9; have hk8 : Kb (Value.ownBlock (.slice p2 0 c2)).toList wa w8 := (Kb.of_ext ((Ext.refl wa).alloc _)).trans (Kb.grown HP8.out.2 (fun g hg => Option.mem_toList.2 hg)); have hb8 := (HA.out.grown hk8 (fun k hk => (HA.out.eqs.lt k hk).1)).2.1; have u3 := hb8.cells 3 _ rfl; have ul := hb8.lt; have uf := hb8.fz; have HK8 := Lib.hid hk8; clear hb8 hk8)) | fail)
          obtain rfl : y8 = 0 + 1 := by
            obtain ⟨a', c', e, -⟩ := SlC.of_owns HP8.out.1
            simp only [Value.slice.injEq] at e
            omega
          have hMB : MemB w1 X g h B N 0 (0 + 1) (.slice p1 0 c1) (.slice x8 (0 + 1) z8) (w8.setCell ⟨X, 3, none⟩ (.slice x8 (0 + 1) z8)) := by
            obtain ⟨g1, g2, g3, g4⟩ := HA.out.grown HK8.out (fun k hk => (HA.out.eqs.lt k hk).1)
            have ho := HP8.out.1
            rw [HMM.out, HNX.out, show (1 : Int) = ((0 : Nat) : Int) + 1 from rfl, ← meC_succ] at ho
            exact MemB.setBox HA.out.lx HA.out.gx HA.out.wx HA.out.lg HA.out.lh g1 g2 g3 g4 rfl (HK8.out.row HA.out.loc (fun k hk e => own_ne HA.out.loc HA.out.eqs (by decide) k e (Option.mem_toList.1 hk))) ho
          have hsz : B ≤ (w8.setCell ⟨X, 3, none⟩ (.slice x8 (0 + 1) z8)).heap.size := by
            have := HK8.out.size
            simp
            omega
          exact ⟨⟨0 + 1, _, _, _, _, by omega, by go_num, hsz, Lib.hid hMB⟩, by simp [intOf]; omega⟩
        · have hj0 : (j : Int) > 0 := by omega
          go_upto_region 14 with (first | (at_builtin; (refine wpList_append_slc _ rfl (.tmp 57) (.tmp 60) 23 rfl B 30 zV 3 48 Try.underlying23 infoVar rfl (by decide) (.slice p1 (j - 1) c1) (j - 1) (mvC (j - 1)) rfl (ownsRow_ext HM3.out.loc (by repeat first | exact Ext.refl _ | assumption | refine Ext.drew ?_ | refine Ext.drewN ?_ _ | refine Ext.extBy ?_ _ | refine Ext.alloc ?_ _ | refine Ext.setCell ?_ (by simp; try omega) _ | (refine Ext.trans ?_ (by assumption)))) _ 1 [.string M, .int .i64 2, NLc] rfl (SlC.fresh _ #[.string M, .int .i64 2, NLc] _ 1 _ (by simp) (by decide)) rfl (by simp [Value.oneCell']) (by unfold maxLen; omega) (by omega) (by simp; omega) ?_; intro v9 w9 hown9 hg9 hat9; obtain ⟨x9, y9, z9, rfl⟩ := own_slice3 hown9; have HP9 := Lib.hid (And.intro hown9 hg9); clear hown9 hg9 hat9; have hk9 : Kb (Value.ownBlock (.slice p1 (j - 1) c1)).toList w3 w9 := (Kb.of_ext ((Ext.refl w3).alloc _)).trans (Kb.grown HP9.out.2 (fun g hg => Option.mem_toList.2 hg)); have hb9 := (HM3.out.grown hk9 (fun k hk => (HM3.out.loc.lt k hk).1)).2.1; have y2 := hb9.cells 2 _ rfl; have yl := hb9.lt; have yf := hb9.fz; have HK9 := Lib.hid hk9; clear hb9 hk9)) | fail)
          obtain rfl : y9 = j := by
            obtain ⟨a', c', e, -⟩ := SlC.of_owns HP9.out.1
            simp only [Value.slice.injEq] at e
            omega
          have hMA : MemB w1 X g h B N y9 y9 (.slice x9 y9 z9) (.slice p2 y9 c2) (w9.setCell ⟨X, 2, none⟩ (.slice x9 y9 z9)) := by
            obtain ⟨g1, g2, g3, g4⟩ := HM3.out.grown HK9.out (fun k hk => (HM3.out.loc.lt k hk).1)
            have ho := HP9.out.1
            have e : y9 - 1 + 1 = y9 := by omega
            have e2 := mvC_succ (y9 - 1)
            rw [e] at e2
            rw [HMM.out, ← e2, e] at ho
            exact MemB.setBox HM3.out.lx HM3.out.gx HM3.out.wx HM3.out.lg HM3.out.lh g1 g2 g3 g4 rfl ho (HK9.out.row HM3.out.eqs (fun k hk e => own_ne HM3.out.eqs HM3.out.loc (by decide) k e (Option.mem_toList.1 hk)))
          have hsa : B ≤ (w9.setCell ⟨X, 2, none⟩ (.slice x9 y9 z9)).heap.size := by
            have := HK9.out.size
            simp
            omega
          clear y2 yl yf b0 b1 b2 b3 bl bf
          generalize (w9.setCell ⟨X, 2, none⟩ (.slice x9 y9 z9)) = wa at hMA hsa ⊢
          have HA := Lib.hid hMA
          clear hMA
          obtain ⟨j, hjj⟩ : ∃ z, z = y9 := ⟨_, rfl⟩
          subst hjj
          have b3 := HA.out.box.cells 3 _ rfl
          have bl := HA.out.box.lt
          have bf := HA.out.box.fz
          go_wp2_with (first | (at_builtin; (refine wpList_append_slc _ rfl (.tmp 64) (.tmp 70) 24 rfl B 35 zQc 13 152 Try.underlying24 infoEq rfl (by decide) (.slice p2 j c2) (j) (meC N j) rfl (ownsRow_ext HA.out.eqs (by repeat first | exact Ext.refl _ | assumption | refine Ext.drew ?_ | refine Ext.drewN ?_ _ | refine Ext.extBy ?_ _ | refine Ext.alloc ?_ _ | refine Ext.setCell ?_ (by simp; try omega) _ | (refine Ext.trans ?_ (by assumption)))) _ 1 [.int .i64 2, .string M, .int .i64 0, .int .i64 0, .int .i64 0, .int .i64 0, .string eB, NLc, .int .i64 ((j : Int) + 1), .string NX, .string eB, .int .i64 0, .int .i64 0] rfl (SlC.fresh _ #[.int .i64 2, .string M, .int .i64 0, .int .i64 0, .int .i64 0, .int .i64 0, .string eB, NLc, .int .i64 ((j : Int) + 1), .string NX, .string eB, .int .i64 0, .int .i64 0] _ 1 _ (by simp) (by decide)) rfl (by simp [Value.oneCell']) (by unfold maxLen; omega) (by omega) (by simp; omega) ?_; intro v7 w8 hown9 hg9 hat9; obtain ⟨x8, y8, z8, rfl⟩ := own_slice3 hown9; have HP8 := Lib.hid (And.intro hown9 hg9); clear hown9 hg9 hat9; have hk8 : Kb (Value.ownBlock (.slice p2 j c2)).toList wa w8 := (Kb.of_ext ((Ext.refl wa).alloc _)).trans (Kb.grown HP8.out.2 (fun g hg => Option.mem_toList.2 hg)); have hb8 := (HA.out.grown hk8 (fun k hk => (HA.out.eqs.lt k hk).1)).2.1; have u3 := hb8.cells 3 _ rfl; have ul := hb8.lt; have uf := hb8.fz; have HK8 := Lib.hid hk8; clear hb8 hk8)) | fail)
          obtain rfl : y8 = j + 1 := by
            obtain ⟨a', c', e, -⟩ := SlC.of_owns HP8.out.1
            simp only [Value.slice.injEq] at e
            omega
          have hMB : MemB w1 X g h B N j (j + 1) (.slice x9 j z9) (.slice x8 (j + 1) z8) (w8.setCell ⟨X, 3, none⟩ (.slice x8 (j + 1) z8)) := by
            obtain ⟨g1, g2, g3, g4⟩ := HA.out.grown HK8.out (fun k hk => (HA.out.eqs.lt k hk).1)
            have ho := HP8.out.1
            rw [HMM.out, HNX.out, ← meC_succ] at ho
            exact MemB.setBox HA.out.lx HA.out.gx HA.out.wx HA.out.lg HA.out.lh g1 g2 g3 g4 rfl (HK8.out.row HA.out.loc (fun k hk e => own_ne HA.out.loc HA.out.eqs (by decide) k e (Option.mem_toList.1 hk))) ho
          have hsz : B ≤ (w8.setCell ⟨X, 3, none⟩ (.slice x8 (j + 1) z8)).heap.size := by
            have := HK8.out.size
            simp
            omega
          exact ⟨⟨j + 1, _, _, _, _, by omega, by go_num, hsz, Lib.hid hMB⟩, by simp [intOf]; omega⟩
    · have hji : ¬ (j : Int) < (N : Int) := fun e => hlt (Int.ofNat_lt.1 e)
      obtain rfl : N = j := by omega
      obtain ⟨wq, hwq⟩ : ∃ z, z = wr := ⟨_, rfl⟩
      subst hwq
      have HXQ : Hid (Ext w wq) := Lib.hid (H1.out.trans HM.out.ext)
      have HL6 : Hid (∀ (k : Nat) (u : Value), (i64s l)[k]? = some u → ∃ b o, p = some ⟨b, o, none⟩ ∧ wq.cell? ⟨b, o + k, none⟩ = some u) := Lib.hid (fun k u hu => by
        obtain ⟨b, o, e, hcc⟩ := HN.out.2 k u hu
        exact ⟨b, o, e, HXQ.out.cell hcc⟩)
      clear hj hlt
      go_upto_region 17 with fail
      go_loopw [10, 11] (fun a i wr => ∃ (q : Nat) (p4 : Option Addr) (c4 : Nat) (xs : List Value), q ≤ L ∧ i = .int .i64 (q : Int) ∧ a = .slice p4 q c4 ∧ Hid (OutsA wq (.slice p4 q c4) xs (onesC ((l.map im).take q)) [] [] wr ∧ xs.length = q)) (fun _ i _ => L - (intOf i).toNat)
      case atStart => exact ⟨0, none, 0, [], Nat.zero_le _, rfl, rfl, Lib.hid ⟨OutsA.nilC _ _ _ (Ext.refl _), rfl⟩⟩
      case round =>
        obtain ⟨q, p4, c4, xs, hq, rfl, rfl, HO⟩ := hrel
        by_cases hlt2 : q < L
        · have hqi : (q : Int) < (L : Int) := Int.ofNat_lt.2 hlt2
          obtain ⟨y, hbb⟩ : ∃ z, l[q]? = some z := ⟨_, List.getElem?_eq_getElem (by rw [← HN.out.1]; exact hlt2)⟩
          obtain ⟨b, o, rfl, f1⟩ := HL6.out q (.int .i64 y) (by unfold i64s; rw [List.getElem?_map, hbb]; rfl)
          have f3 := HO.out.1.ext.cell f1
          have z1 : b < wr.heap.size := World.block_lt_of_cell? wr _ f3
          have hjc : q < cap := by omega
          have HB := Lib.hid hbb
          clear hbb f1
          have hsw : wq.heap.size ≤ wr.heap.size := HO.out.1.ext.size
          go_wp2_with (first | (at_builtin; (refine wpList_append_slc _ rfl (.tmp 79) (.tmp 87) 42 rfl wq.heap.size 36 (.slice none 0 0) 1 24 Try.underlying42 infoRows rfl (by decide) (.slice p4 q c4) xs.length xs rfl (ownsRow_ext HO.out.1.top (by repeat first | exact Ext.refl _ | assumption | refine Ext.drew ?_ | refine Ext.drewN ?_ _ | refine Ext.extBy ?_ _ | refine Ext.alloc ?_ _ | refine Ext.setCell ?_ (by simp; try omega) _ | (refine Ext.trans ?_ (by assumption)))) _ 1 [.slice (some ⟨wr.heap.size, 0, none⟩) 1 1] rfl (SlC.fresh _ #[.slice (some ⟨wr.heap.size, 0, none⟩) 1 1] _ 1 _ (by simp) (by decide)) rfl (by simp [Value.oneCell']) (by unfold maxLen; (have := HO.out.2; omega)) (by (have := HO.out.2; omega)) (by simp; omega) ?_; intro v9 w9 hown9 hg9 hat9; obtain ⟨x9, y9, z9, rfl⟩ := own_slice3 hown9; have HP9 := Lib.hid (And.intro hown9 (And.intro hg9 hat9)); clear hown9 hg9 hat9)) | fail)
          have h9 := (HO.out.1.rowC #[.int .i64 (im y)] [im y] rfl (show 1 ≤ maxLen by decide) HP9.out.2.1 HP9.out.1 HP9.out.2.2).1
          obtain rfl : y9 = q + 1 := by
            obtain ⟨a', c', e, -⟩ := SlC.of_owns HP9.out.1
            simp at e
            rw [e.2.1, HO.out.2]
          refine ⟨⟨q + 1, x9, z9, xs ++ [.slice (some ⟨wr.heap.size, 0, none⟩) 1 1], by omega, by go_num, rfl, Lib.hid ⟨?_, by simp [HO.out.2]⟩⟩, by simp [intOf]; omega⟩
          rw [List.take_add_one, List.getElem?_map, HB.out]
          unfold onesC at h9 ⊢
          rw [List.map_append]
          exact h9
        · have hqi : ¬ (q : Int) < (L : Int) := fun e => hlt2 (Int.ofNat_lt.1 e)
          obtain rfl : L = q := by omega
          have hlm : (l.map im).length = L := by rw [List.length_map, ← HN.out.1]
          have HRS : Hid (RowsIn wr (.slice p4 L c4) xs (onesC (l.map im)) ∧ Ext wq wr) := Lib.hid (by
            have h1 := HO.out.1.rows
            rw [← hlm, List.take_length, hlm] at h1
            exact ⟨h1, HO.out.1.ext⟩)
          obtain ⟨YS, hYS⟩ : ∃ ys, ys = (mem0 N ++ l.map im).take L := ⟨_, rfl⟩
          have hyl : YS.length = L := by rw [hYS, List.length_take, List.length_append, hlm]; omega
          have HYS : Hid ((∀ k, k < N → k < L → YS[k]? = some ((k : Int) + 1)) ∧ ∀ d, N + d < L → ∃ y, (l.map im)[d]? = some y ∧ YS[N + d]? = some y) := Lib.hid (by
            rw [hYS]
            have e0 : (mem0 N).length = N := by simp [mem0]
            refine ⟨fun k h1 h2 => ?_, fun d h1 => ?_⟩
            · rw [List.getElem?_take_of_lt h2, List.getElem?_append_left (by omega)]
              unfold mem0
              rw [List.getElem?_map, List.getElem?_range h1]
              rfl
            · refine ⟨_, List.getElem?_eq_getElem (by omega), ?_⟩
              rw [List.getElem?_take_of_lt h1, List.getElem?_append_right (by omega), e0]
              rw [show N + d - N = d by omega]
              exact List.getElem?_eq_getElem (by omega))
          have HCR : Hid (Calls Try.prog 16 #[.agg #[.slice (some ⟨g, 0, none⟩) 1 1, .slice (some ⟨h, 0, none⟩) 1 1, .slice p1 (N - 1) c1, .slice p2 N c2], .slice p4 L c4] wr (fun e w'' => ∃ av cv vs', e = .returned (.tuple #[.slice av L cv, .int .i64 0]) ∧ Hid (RowsIn w'' (.slice av L cv) vs' (onesC YS) ∧ Ext wr w''))) := Lib.hid (by
            obtain ⟨-, e2, e3, -⟩ := (mem_all ⟨N, by omega⟩).resolve_left (by simp; omega)
            refine (crun_any (memC N) ⟨.slice (some ⟨g, 0, none⟩) 1 1, .slice (some ⟨h, 0, none⟩) 1 1, .slice p1 (N - 1) c1, .slice p2 N c2⟩ _ _ _ wr ((HM.out.next HRS.out.2).cp hN1) (smC_b e3) (okC_b e2) HRS.out.1 (fun r hr n hn => ?_)).mono ?_
            · unfold onesC at hr
              obtain ⟨x, hx, rfl⟩ := List.mem_map.1 hr
              obtain ⟨z, -, rfl⟩ := List.mem_map.1 hx
              rw [List.mem_singleton.1 hn]
              exact im_64 z
            · rintro e w'' ⟨v', vs', h1, h2, h3⟩
              rw [mem_run hN1 hN2 (l.map im) (fun x hx => by
                obtain ⟨z, -, rfl⟩ := List.mem_map.1 hx
                exact im_isk z) (by rw [hlm]; exact hn2), hlm, ← hYS] at h1 h2
              obtain ⟨av, cv, rfl, -, -, -⟩ := id h2.top
              have e5 : (onesC YS).length = L := by unfold onesC; rw [List.length_map]; exact hyl
              rw [e5] at h1 h2
              exact ⟨av, cv, vs', h1, Lib.hid ⟨h2, h3⟩⟩)
          have b6 := HM.out.box.ext HRS.out.2
          have u0 := b6.cells 0 _ rfl
          have u1 := b6.cells 1 _ rfl
          have u2 := b6.cells 2 _ rfl
          have u3 := b6.cells 3 _ rfl
          have ul := b6.lt
          have HYL := Lib.hid (And.intro hyl hlm)
          clear b6 hYS hyl hlm
          go_upto_region 24 with (first
            | (go_at_call 16; refine HCR.out.mono ?_; rintro e3 wf ⟨av, cv, vs6, rfl, H6⟩)
            | (go_at_call 17; refine (num13_any _ _).mono ?_; rintro e8 w8 ⟨rfl, rfl⟩) | fail)
          clear u0 u1 u2 u3 ul
          have HRI : Hid (RowsIn wf (.slice p4 L c4) xs (onesC (l.map im))) := Lib.hid (HRS.out.1.ext H6.out.2)
          obtain ⟨hcv, HVS⟩ : L ≤ cv ∧ Hid (∀ (k : Nat) (u : Value), vs6[k]? = some u → ∃ b o, av = some ⟨b, o, none⟩ ∧ wf.cell? ⟨b, o + k, none⟩ = some u) := by
            obtain ⟨a', c', e, h1, h2, h3⟩ := H6.out.1.top
            simp only [Value.slice.injEq] at e
            obtain ⟨rfl, e2, rfl⟩ := e
            exact ⟨by omega, Lib.hid h3⟩
          obtain ⟨hc4, HVX⟩ : L ≤ c4 ∧ Hid (∀ (k : Nat) (u : Value), xs[k]? = some u → ∃ b o, p4 = some ⟨b, o, none⟩ ∧ wf.cell? ⟨b, o + k, none⟩ = some u) := by
            obtain ⟨a', c', e, h1, h2, h3⟩ := HRI.out.top
            simp only [Value.slice.injEq] at e
            obtain ⟨rfl, e2, rfl⟩ := e
            exact ⟨by omega, Lib.hid h3⟩
          have hcvI : (cv : Int) ≤ 9223372036854775807 := by
            obtain ⟨a', c', e, h1, h2, h3⟩ := H6.out.1.top
            simp only [Value.slice.injEq] at e
            rw [e.2.2]
            unfold maxLen at h2
            omega
          have hc4I : (c4 : Int) ≤ 9223372036854775807 := by
            obtain ⟨a', c', e, h1, h2, h3⟩ := HRI.out.top
            simp only [Value.slice.injEq] at e
            rw [e.2.2]
            unfold maxLen at h2
            omega
          go_loopw [14] (fun i wr => ∃ k : Nat, k ≤ L ∧ i = .int .i64 (k : Int) ∧ Hid (Ext wf wr)) (fun i _ => L - (intOf i).toNat)
          case atStart => exact ⟨0, Nat.zero_le _, rfl, Lib.hid (Ext.refl _)⟩
          case round =>
            obtain ⟨k, hk, rfl, HX⟩ := hrel
            by_cases hlt3 : k < L
            · have hki : (k : Int) < (L : Int) := Int.ofNat_lt.2 hlt3
              have hkc : k < cv := by omega
              obtain ⟨x, hx⟩ : ∃ x, vs6[k]? = some x := ⟨_, List.getElem?_eq_getElem (by rw [H6.out.1.len]; unfold onesC; rw [List.length_map, HYL.out.1]; exact hlt3)⟩
              by_cases hkN : k < N
              · have hkN1 : ¬ (k : Int) ≥ (N : Int) := by omega
                have hrow := H6.out.1.row k x [(k : Int) + 1] hx (by unfold onesC; rw [List.getElem?_map, HYS.out.1 k hkN hlt3]; rfl)
                obtain ⟨b, o, rfl, d0⟩ := HVS.out k x hx
                obtain ⟨ra, rc, rfl, l1, l2, lc⟩ := hrow
                obtain ⟨b2, o2, rfl, d1⟩ := lc 0 (.int .i64 ((k : Int) + 1)) rfl
                rw [Nat.add_zero] at d1
                replace d0 := HX.out.cell d0
                replace d1 := HX.out.cell d1
                have dl := World.block_lt_of_cell? wr _ d0
                have dl1 := World.block_lt_of_cell? wr _ d1
                have l1' : 1 ≤ rc := l1
                have l2' : 0 < rc := l1
                have hrc : (0 : Int) < (rc : Int) := by omega
                clear l1 l2 lc hx
                go_wp2
                exact ⟨⟨k + 1, by omega, by go_num, HX⟩, by simp [intOf]; omega⟩
              · obtain ⟨d, rfl⟩ : ∃ d, k = N + d := ⟨k - N, by omega⟩
                have hkN1 : ((N + d : Nat) : Int) ≥ (N : Int) := by omega
                have hsub : ((N + d : Nat) : Int) - (N : Int) = (d : Int) := by omega
                obtain ⟨y, hy1, hy2⟩ := HYS.out.2 d hlt3
                have hrow := H6.out.1.row (N + d) x [y] hx (by unfold onesC; rw [List.getElem?_map, hy2]; rfl)
                obtain ⟨x4, hx4⟩ : ∃ x, xs[d]? = some x := ⟨_, List.getElem?_eq_getElem (by rw [HRI.out.len]; unfold onesC; rw [List.length_map, HYL.out.2]; omega)⟩
                have hrow4 := HRI.out.row d x4 [y] hx4 (by unfold onesC; rw [List.getElem?_map, hy1]; rfl)
                obtain ⟨k, hkk⟩ : ∃ k, k = N + d := ⟨_, rfl⟩
                rw [← hkk] at hlt3 hki hkc hx hkN1 hsub hk ⊢
                obtain ⟨b, o, rfl, d0⟩ := HVS.out k x hx
                obtain ⟨ra, rc, rfl, l1, l2, lc⟩ := hrow
                obtain ⟨b2, o2, rfl, d1⟩ := lc 0 (.int .i64 y) rfl
                rw [Nat.add_zero] at d1
                obtain ⟨b3, o3, rfl, d2⟩ := HVX.out d x4 hx4
                obtain ⟨ra4, rc4, rfl, m1, m2, mc⟩ := hrow4
                obtain ⟨b4, o4, rfl, d3⟩ := mc 0 (.int .i64 y) rfl
                rw [Nat.add_zero] at d3
                replace d0 := HX.out.cell d0
                replace d1 := HX.out.cell d1
                replace d2 := HX.out.cell d2
                replace d3 := HX.out.cell d3
                have dl := World.block_lt_of_cell? wr _ d0
                have dl1 := World.block_lt_of_cell? wr _ d1
                have dl2 := World.block_lt_of_cell? wr _ d2
                have dl3 := World.block_lt_of_cell? wr _ d3
                have l1' : 1 ≤ rc := l1
                have l2' : 0 < rc := l1
                have hrc : (0 : Int) < (rc : Int) := by omega
                have m1' : 1 ≤ rc4 := m1
                have m2' : 0 < rc4 := m1
                have hrc4 : (0 : Int) < (rc4 : Int) := by omega
                have hdq : d < L := by omega
                have hdc : d < c4 := by omega
                have hdi : (d : Int) < (L : Int) := by omega
                clear l1 l2 lc hx m1 m2 mc hx4 hy1 hy2 hkN hkk
                go_wp2
                exact ⟨⟨k + 1, by omega, by go_num, HX⟩, by simp [intOf]; omega⟩
            · have hki : ¬ (k : Int) < (L : Int) := fun e => hlt3 (Int.ofNat_lt.1 e)
              obtain rfl : L = k := by omega
              go_wp2
              rw [HQ.out]
              exact ⟨rfl, Lib.hid (HXQ.out.trans (HRS.out.2.trans (H6.out.2.trans HX.out)))⟩
theorem coreMemories_law (n : Int) (l : List Int) (v : Value) (w : World) (hv : SlC w v l.length (i64s l)) : Calls Try.prog 4 #[.int .i64 n, v] w fun e w' => e = .returned (.bool true) ∧ Ext w w' :=
  (coreMemories_any n l v w hv).mono fun _ _ h => ⟨h.1, h.2.out⟩
end Go.Proofs.Ytmommjagndadjaa

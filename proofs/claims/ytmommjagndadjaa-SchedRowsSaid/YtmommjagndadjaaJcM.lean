/-
  The walk: a flat program's run: an expression is evaluated.
  Condition: the expression and the run lie in memory.
  The walk: a flat program's run: an expression is evaluated, whatever its form is; whether a clock holds.
  Condition: the expression and the run lie in memory.
  The walk: a flat program's run: whether a clock holds.
  Condition: the clock and the run lie in memory.
  The walk: a flat program's run: one tick.
  Condition: the program and the run lie in memory.
  The walk: a flat program's run: one tick.
  Condition: the program and the run lie in memory.
-/
import Derived.Test.YtmommjagndadjaaJcL
import Derived.Test.YtmommjagndadjaaJcG
import Derived.Test.YtmommjagndadjaaJcC
import Derived.Test.YtmommjagndadjaaJcD
import Derived.Test.YtmommjagndadjaaJcE
import Derived.Test.YtmommjagndadjaaJcA
namespace Go.Proofs.Ytmommjagndadjaa
open Go.RowKit Go.Maps
set_option linter.unusedSimpArgs false
set_option linter.unusedVariables false
set_option maxRecDepth 100000

/-! ### Plain -/
theorem evL_get (of : ByteArray → Int) (t : CE0) : ∀ (l : List CE) (i : Nat), (evL of t l)[i]? = (l[i]?).map (evE of t)
  | [], i => by rw [evL]; simp
  | x :: l, 0 => by rw [evL]; simp
  | x :: l, i + 1 => by rw [evL]; simpa using evL_get of t l i
theorem evL_at (of : ByteArray → Int) (t : CE0) {l : List CE} {i : Nat} {x : CE} (h : l[i]? = some x) : (evL of t l).getD i 0 = evE of t x := by
  rw [List.getD, evL_get, h]; rfl
theorem kid_at {l : List CE} {i : Nat} {x : CE} (h : l[i]? = some x) (z : CE) : l.getD i z = x := by rw [List.getD, h]; rfl
theorem evE_1 (of : ByteArray → Int) (t : CE0) (e : CE) (h : e.form = 1) : evE of t e = e.n := by
  cases e with | mk f s k n nm l => simp only [CE.form] at h; subst h; rw [evE]; rfl
theorem evE_2 (of : ByteArray → Int) (t : CE0) (e : CE) (h : e.form = 2) : evE of t e = getV t e.name := by
  cases e with | mk f s k n nm l => simp only [CE.form] at h; subst h; rw [evE]; rfl
theorem evE_3 (of : ByteArray → Int) (t : CE0) (e : CE) (h : e.form = 3) {x : CE} (hx : e.kids[0]? = some x) : evE of t e = (unv e.sub (kindE of x) (evE of t x)).1 := by
  cases e with | mk f s k n nm l => simp only [CE.form] at h; subst h; simp only [CE.kids] at hx; rw [evE]; rw [evL_at of t hx, kid_at hx]; rfl
theorem evE_4 (of : ByteArray → Int) (t : CE0) (e : CE) (h : e.form = 4) {x y : CE} (hx : e.kids[0]? = some x) (hy : e.kids[1]? = some y) : evE of t e = (binv e.sub (kindE of x) (evE of t x) (evE of t y)).1 := by
  cases e with | mk f s k n nm l => simp only [CE.form] at h; subst h; simp only [CE.kids] at hx hy; rw [evE]; rw [evL_at of t hx, evL_at of t hy, kid_at hx]; rfl
theorem evE_5 (of : ByteArray → Int) (t : CE0) (e : CE) (h : e.form = 5) {x y z : CE} (hx : e.kids[0]? = some x) (hy : e.kids[1]? = some y) (hz : e.kids[2]? = some z) : evE of t e = if evE of t x ≠ 0 then evE of t y else evE of t z := by
  cases e with | mk f s k n nm l => simp only [CE.form] at h; subst h; simp only [CE.kids] at hx hy hz; rw [evE]; rw [evL_at of t hx, evL_at of t hy, evL_at of t hz]; rfl
theorem evE_11 (of : ByteArray → Int) (t : CE0) (e : CE) (h : e.form = 11) {x : CE} (hx : e.kids[0]? = some x) : evE of t e = (castv (kindE of x) e.kind (evE of t x)).1 := by
  cases e with | mk f s k n nm l => simp only [CE.form] at h; subst h; simp only [CE.kids] at hx; rw [evE]; rw [evL_at of t hx, kid_at hx]; rfl
theorem evE_9 (of : ByteArray → Int) (t : CE0) (e : CE) (h : e.form = 9) {x : CE} (hx : e.kids[0]? = some x) : evE of t e = evE of t x := by
  cases e with | mk f s k n nm l => simp only [CE.form] at h; subst h; simp only [CE.kids] at hx; rw [evE]; rw [evL_at of t hx]; rfl
theorem evE_10 (of : ByteArray → Int) (t : CE0) (e : CE) (h : e.form = 10) {x y : CE} (hx : e.kids[0]? = some x) (hy : e.kids[1]? = some y) : evE of t e = if getV t e.name ≠ 0 then evE of t x else evE of t y := by
  cases e with | mk f s k n nm l => simp only [CE.form] at h; subst h; simp only [CE.kids] at hx hy; rw [evE]; rw [evL_at of t hx, evL_at of t hy]; rfl
/-- An expression of a program that the rules take: its forms, its kids. -/
def frx (e : CE) : Prop := partsE (fun e => decide (kidsC e.form = e.kids.length)) e = true
theorem frx.here {e : CE} (h : frx e) : kidsC e.form = e.kids.length := by
  unfold frx at h
  rw [partsE_eq, Bool.and_eq_true] at h
  simpa using h.1
theorem frx.at {e x : CE} {i : Nat} (h : frx e) (hx : e.kids[i]? = some x) : frx x := by
  unfold frx at h ⊢
  rw [partsE_eq, Bool.and_eq_true] at h
  exact partsL_at h.2 hx
theorem frx.frm {e : CE} (h : frx e) : Go.Proofs.Ytmommjagndadjaa.frm e := by
  unfold Go.Proofs.Ytmommjagndadjaa.frm
  refine partsE_mono (fun e he => ?_) e h
  have h1 : kidsC e.form = e.kids.length := by simpa using he
  unfold frmB
  rw [Bool.and_eq_true]
  unfold kidsC at h1
  unfold wantF
  repeat' split at h1
  all_goals
    constructor
    · rw [decide_eq_true_eq]
      repeat' split
      all_goals omega
    · rw [decide_eq_true_eq]
      omega
theorem frx.forms {e : CE} (h : frx e) : e.form = 1 ∨ e.form = 2 ∨ (e.form = 3 ∧ e.kids.length = 1) ∨ (e.form = 4 ∧ e.kids.length = 2) ∨ (e.form = 5 ∧ e.kids.length = 3) ∨ (e.form = 11 ∧ e.kids.length = 1) ∨ (e.form = 9 ∧ e.kids.length = 1) ∨ (e.form = 10 ∧ e.kids.length = 2) := by
  have h1 := h.here
  unfold kidsC at h1
  repeat' split at h1
  all_goals omega
/-! ### In memory -/
def ktL (t : VT) : List (ByteArray × Value) := t.map fun v => (v.name, .int .i64 v.kind)
def ceL (t : CE0) : List (ByteArray × Value) := t.map fun e => (e.1, .agg #[.int .i64 e.2, .bool true])
theorem find_kt (n : ByteArray) : ∀ t : VT, (findS (ktL t) n).getD (.int .i64 0) = .int .i64 (kindT t n)
  | [] => rfl
  | e :: t => by
    have ih := find_kt n t
    by_cases h : e.name = n
    · subst h
      simp [findS, ktL, kindT, lookT]
    · have h1 : findS (ktL (e :: t)) n = findS (ktL t) n := findS_other h _ _
      rw [h1, ih]
      unfold kindT lookT
      rw [List.find?_cons_of_neg (by simpa using h)]
theorem find_ce (n : ByteArray) : ∀ t : CE0, (findS (ceL t) n).getD (.agg #[.int .i64 0, .bool false]) = .agg #[.int .i64 (getV t n), .bool (hasR t n)]
  | [] => rfl
  | e :: t => by
    have ih := find_ce n t
    by_cases h : e.1 = n
    · subst h
      simp [findS, ceL, getV, hasR]
    · have h1 : findS (ceL (e :: t)) n = findS (ceL t) n := findS_other h _ _
      rw [h1, ih]
      unfold getV hasR
      rw [List.find?_cons_of_neg (by simpa using h)]
theorem czeroC (w : World) : (zeroValue 100).run Try.prog w = .ok (.agg #[.int .i64 0, .bool false]) w := by kernel_rfl
@[go_sem] theorem cellField0 (a b : Value) (w : World) : Sem.run Try.prog (Instr.field 100 (.agg #[a, b]) 0) w = .ok a w := by kernel_rfl
@[go_sem] theorem cellField1 (a b : Value) (w : World) : Sem.run Try.prog (Instr.field 100 (.agg #[a, b]) 1) w = .ok b w := by kernel_rfl
/-- A run under way: its block, its maps. -/
structure RS (W0 : World) (x : S4) (B K C : Nat) (vt : VT) (t : CE0) (mv tk : Value) (w : World) : Prop where
  ext : Ext W0 w
  box : BoxV B [x.iv, x.ov, x.lv, x.ev, .map (some K), .map (some C), mv, tk] w
  km : SM Try.prog 9 K (ktL vt) w
  cm : SM Try.prog 9 C (ceL t) w
section
variable {W0 w w' : World} {x : S4} {B K C : Nat} {vt : VT} {t : CE0} {mv tk : Value}
theorem RS.next (h : RS W0 x B K C vt t mv tk w) (hx : Ext w w') : RS W0 x B K C vt t mv tk w' := ⟨h.ext.trans hx, h.box.ext hx, h.km.ext hx, h.cm.ext hx⟩
theorem RS.look (h : RS W0 x B K C vt t mv tk w) {n : ByteArray} (hn : n.size ≤ maxLen) : (Instr.lookup 70 (.map (some C)) (.string n) false).run Try.prog w = .ok (.agg #[.int .i64 (getV t n), .bool (hasR t n)]) w := by
  rw [← find_ce]
  exact h.cm.look Try.underlying9 Try.underlying70 (czeroC w) hn
theorem RS.lookK (h : RS W0 x B K C vt t mv tk w) {n : ByteArray} (hn : n.size ≤ maxLen) : (Instr.lookup 68 (.map (some K)) (.string n) false).run Try.prog w = .ok (.int .i64 (kindT vt n)) w := by
  rw [← find_kt]
  exact h.km.look Try.underlying9 Try.underlying68 (czeroI w) hn
set_option maxHeartbeats 4000000 in
theorem rkind_any (h : RS W0 x B K C vt t mv tk w) (n : ByteArray) (hn : n.size ≤ maxLen) :
    Calls Try.prog 82 #[.pointer (some ⟨B, 0, none⟩), .string n] w (RetI (kindT vt n) w) := by
  obtain ⟨R, hR⟩ : ∃ R, R = kindT vt n := ⟨_, rfl⟩
  rw [← hR]
  obtain ⟨Q, hQ⟩ : ∃ Q, Q = RetI R w := ⟨_, rfl⟩
  rw [← hQ]
  have HQ := Lib.hid hQ
  have hrun := h.lookK hn
  rw [← hR] at hrun
  have g4 := h.box.cells 4 _ rfl
  have gl := h.box.lt
  clear hQ hR h hn
  go_enter Try.func82, Try.ntmps82
  go_wp2
  rw [HQ.out]
  exact ⟨rfl, Lib.hid (Ext.refl w)⟩
end
theorem clo_rkind (W0 : World) (x : S4) (B K C : Nat) (vt : VT) (t : CE0) (mv tk : Value) : CloN W0 (fun w => RS W0 x B K C vt t mv tk w) (kindT vt) 82 (.pointer (some ⟨B, 0, none⟩)) where
  st := fun _ _ h hx => h.next hx
  enter := fun args w => by kernel_rfl
  call := fun w n _ h hn => rkind_any h n hn
theorem in_ri {P : Program} {f : FuncId} {args : Array Value} {W : World} {t : Tok} {b : Int} (h : Calls P f args (W.extBy t) (RetI b (W.extBy t))) :
    Calls P f args (W.extBy t) (fun e w' => e = .returned (.int .i64 b) ∧ ∃ t', w' = W.extBy t') := h.mono fun _ _ hh => ⟨hh.1, ((Ext.by W t).trans hh.2.out).tok⟩
/-- A kid: what its evaluation and its kind tell. -/
structure KidC (W0 : World) (St : World → Prop) (B : Nat) (of : ByteArray → Int) (t : CE0) (x : CE) (v : Value) : Prop where
  ev : ∀ w1, St w1 → Calls Try.prog 50 #[.pointer (some ⟨B, 0, none⟩), v] w1 (RetI (evE of t x) w1)
  kd : ∀ w1, St w1 → Calls Try.prog 59 #[v, .func (.func 82) #[.pointer (some ⟨B, 0, none⟩)] #[]] w1 (RetI (kindE of x) w1)
  i64 : I64 (evE of t x)
set_option maxHeartbeats 16000000 in
theorem rlit_any {W0 w : World} {x : S4} {B K C : Nat} {vt : VT} {t : CE0} {mv tk : Value} {e : CE} {kv : Value} (hst : RS W0 x B K C vt t mv tk w) (hk : KIn W0 e kv) (hok : okE e) (hf : e.form = 1) (hkl : True) (hkid : ∀ (i : Nat) (x' : CE) (v' : Value), e.kids[i]? = some x' → KIn W0 x' v' → KidC W0 (fun w => RS W0 x B K C vt t mv tk w) B (kindT vt) t x' (eVal x' v')) :
    Calls Try.prog 72 #[.pointer (some ⟨B, 0, none⟩), eVal e kv] w (RetI (evE (kindT vt) t e) w) := by
  obtain ⟨R, hR⟩ : ∃ R, R = evE (kindT vt) t e := ⟨_, rfl⟩
  rw [← hR]
  obtain ⟨Q, hQ⟩ : ∃ Q, Q = RetI R w := ⟨_, rfl⟩
  rw [← hQ]
  have HQ := Lib.hid hQ
  have HR := Lib.hid hR
  have HST := Lib.hid hst
  obtain ⟨p, c, rfl, hkc, hcm⟩ := hk.slice
  obtain ⟨n, hkn⟩ : ∃ n, e.kids.length = n := ⟨_, rfl⟩
  rw [hkn] at hk hkc ⊢
  try rw [hkn] at hkl
  have hcI : (c : Int) ≤ 9223372036854775807 := by unfold maxLen at hcm; omega
  obtain ⟨sb, hs⟩ : ∃ s, s = e.sub := ⟨_, rfl⟩
  obtain ⟨k, hk2⟩ : ∃ s, s = e.kind := ⟨_, rfl⟩
  obtain ⟨nn, hnn⟩ : ∃ s, s = e.n := ⟨_, rfl⟩
  obtain ⟨nm, hnm⟩ : ∃ s, s = e.name := ⟨_, rfl⟩
  have HEVL := Lib.hid (show eVal e (.slice p n c) = .agg #[.int .i64 1, .int .i64 sb, .int .i64 k, .int .i64 nn, .string nm, .slice p n c] by rw [hs, hk2, hnn, hnm, ← hf]; rfl)
  rw [HEVL.out]
  have HL := Lib.hid (And.intro hf (And.intro hs (And.intro hk2 (And.intro hnn hnm))))
  have hkw : KIn W0 e (.slice p n c) := hk
  have HC : Hid (R = nn) := Lib.hid (by rw [HR.out, evE_1 _ _ e HL.out.1, ← HL.out.2.2.2.1])
  have gl := hst.box.lt
  have hby : BoxV w.heap.size [.int .i64 1, .int .i64 sb, .int .i64 k, .int .i64 nn, .string nm, .slice p n c] (w.alloc (.cells #[.int .i64 1, .int .i64 sb, .int .i64 k, .int .i64 nn, .string nm, .slice p n c] 33)) := BoxV.of_row (heap_alloc_last w _)
  have hxy : Ext w (w.alloc (.cells #[.int .i64 1, .int .i64 sb, .int .i64 k, .int .i64 nn, .string nm, .slice p n c] 33)) := (Ext.refl w).alloc _
  have HXY := Lib.hid hxy
  clear hQ hR hk hok hf hs hk2 hnn hnm hcm hkid hkw hst hkn
  go_enter Try.func72, Try.ntmps72
  go_upto_region 1 with fail
  generalize (w.alloc (.cells #[.int .i64 1, .int .i64 sb, .int .i64 k, .int .i64 nn, .string nm, .slice p n c] 33)) = wy at hby hxy HXY ⊢
  generalize w.heap.size = Y at hby ⊢
  have d0 := hby.cells 0 _ rfl
  have d1 := hby.cells 1 _ rfl
  have d2 := hby.cells 2 _ rfl
  have d3 := hby.cells 3 _ rfl
  have d4 := hby.cells 4 _ rfl
  have d5 := hby.cells 5 _ rfl
  have hyl := hby.lt
  have HBY := Lib.hid hby
  clear hby hxy
  go_wp2
  rw [HQ.out, HC.out]
  exact ⟨rfl, Lib.hid HXY.out⟩
set_option maxHeartbeats 16000000 in
theorem rname_any {W0 w : World} {x : S4} {B K C : Nat} {vt : VT} {t : CE0} {mv tk : Value} {e : CE} {kv : Value} (hst : RS W0 x B K C vt t mv tk w) (hk : KIn W0 e kv) (hok : okE e) (hf : e.form = 2) (hkl : True) (hkid : ∀ (i : Nat) (x' : CE) (v' : Value), e.kids[i]? = some x' → KIn W0 x' v' → KidC W0 (fun w => RS W0 x B K C vt t mv tk w) B (kindT vt) t x' (eVal x' v')) :
    Calls Try.prog 73 #[.pointer (some ⟨B, 0, none⟩), eVal e kv] w (RetI (evE (kindT vt) t e) w) := by
  obtain ⟨R, hR⟩ : ∃ R, R = evE (kindT vt) t e := ⟨_, rfl⟩
  rw [← hR]
  obtain ⟨Q, hQ⟩ : ∃ Q, Q = RetI R w := ⟨_, rfl⟩
  rw [← hQ]
  have HQ := Lib.hid hQ
  have HR := Lib.hid hR
  have HST := Lib.hid hst
  obtain ⟨p, c, rfl, hkc, hcm⟩ := hk.slice
  obtain ⟨n, hkn⟩ : ∃ n, e.kids.length = n := ⟨_, rfl⟩
  rw [hkn] at hk hkc ⊢
  try rw [hkn] at hkl
  have hcI : (c : Int) ≤ 9223372036854775807 := by unfold maxLen at hcm; omega
  obtain ⟨sb, hs⟩ : ∃ s, s = e.sub := ⟨_, rfl⟩
  obtain ⟨k, hk2⟩ : ∃ s, s = e.kind := ⟨_, rfl⟩
  obtain ⟨nn, hnn⟩ : ∃ s, s = e.n := ⟨_, rfl⟩
  obtain ⟨nm, hnm⟩ : ∃ s, s = e.name := ⟨_, rfl⟩
  have HEVL := Lib.hid (show eVal e (.slice p n c) = .agg #[.int .i64 2, .int .i64 sb, .int .i64 k, .int .i64 nn, .string nm, .slice p n c] by rw [hs, hk2, hnn, hnm, ← hf]; rfl)
  rw [HEVL.out]
  have HL := Lib.hid (And.intro hf (And.intro hs (And.intro hk2 (And.intro hnn hnm))))
  have hkw : KIn W0 e (.slice p n c) := hk
  have hnms : nm.size ≤ maxLen := by rw [hnm]; exact hok.name
  have hlk0 := fun n' : Nat => (hst.next (((Ext.refl w).alloc (.cells #[.int .i64 2, .int .i64 sb, .int .i64 k, .int .i64 nn, .string nm, .slice p n c] 33)).drewN n')).look (n := nm) hnms
  obtain ⟨gv, hgv⟩ : ∃ z, z = getV t nm := ⟨_, rfl⟩
  rw [← hgv] at hlk0
  have HGV := Lib.hid hgv
  have g5 := hst.box.cells 5 _ rfl
  clear hgv hnms
  have HC : Hid (R = gv) := Lib.hid (by rw [HR.out, evE_2 _ _ e HL.out.1, ← HL.out.2.2.2.2, ← HGV.out])
  have gl := hst.box.lt
  have hby : BoxV w.heap.size [.int .i64 2, .int .i64 sb, .int .i64 k, .int .i64 nn, .string nm, .slice p n c] (w.alloc (.cells #[.int .i64 2, .int .i64 sb, .int .i64 k, .int .i64 nn, .string nm, .slice p n c] 33)) := BoxV.of_row (heap_alloc_last w _)
  have hxy : Ext w (w.alloc (.cells #[.int .i64 2, .int .i64 sb, .int .i64 k, .int .i64 nn, .string nm, .slice p n c] 33)) := (Ext.refl w).alloc _
  have HXY := Lib.hid hxy
  clear hQ hR hk hok hf hs hk2 hnn hnm hcm hkid hkw hst hkn
  go_enter Try.func73, Try.ntmps73
  go_upto_region 1 with fail
  replace g5 := hxy.cell g5
  replace gl := Nat.lt_of_lt_of_le gl hxy.size
  generalize (w.alloc (.cells #[.int .i64 2, .int .i64 sb, .int .i64 k, .int .i64 nn, .string nm, .slice p n c] 33)) = wy at hby hxy HXY g5 gl hlk0 ⊢
  generalize w.heap.size = Y at hby ⊢
  have d0 := hby.cells 0 _ rfl
  have d1 := hby.cells 1 _ rfl
  have d2 := hby.cells 2 _ rfl
  have d3 := hby.cells 3 _ rfl
  have d4 := hby.cells 4 _ rfl
  have d5 := hby.cells 5 _ rfl
  have hyl := hby.lt
  have HBY := Lib.hid hby
  clear hby hxy
  (refine region_drew (by kernel_rfl) (by kernel_rfl) ?_; (repeat (go_big_quiet_step (fail))); refine wpQuiet_nil ?_; rintro _ ⟨nq, rfl⟩)
  go_wp2
  try go_ret
  rw [HQ.out, HC.out]
  exact ⟨rfl, Lib.hid (HXY.out.drewN _)⟩
set_option maxHeartbeats 16000000 in
theorem rwhen_any {W0 w : World} {x : S4} {B K C : Nat} {vt : VT} {t : CE0} {mv tk : Value} {e : CE} {kv : Value} (hst : RS W0 x B K C vt t mv tk w) (hk : KIn W0 e kv) (hok : okE e) (hf : e.form = 9) (hkl : e.kids.length = 1) (hkid : ∀ (i : Nat) (x' : CE) (v' : Value), e.kids[i]? = some x' → KIn W0 x' v' → KidC W0 (fun w => RS W0 x B K C vt t mv tk w) B (kindT vt) t x' (eVal x' v')) :
    Calls Try.prog 78 #[.pointer (some ⟨B, 0, none⟩), eVal e kv] w (RetI (evE (kindT vt) t e) w) := by
  obtain ⟨R, hR⟩ : ∃ R, R = evE (kindT vt) t e := ⟨_, rfl⟩
  rw [← hR]
  obtain ⟨Q, hQ⟩ : ∃ Q, Q = RetI R w := ⟨_, rfl⟩
  rw [← hQ]
  have HQ := Lib.hid hQ
  have HR := Lib.hid hR
  have HST := Lib.hid hst
  obtain ⟨p, c, rfl, hkc, hcm⟩ := hk.slice
  obtain ⟨n, hkn⟩ : ∃ n, e.kids.length = n := ⟨_, rfl⟩
  rw [hkn] at hk hkc ⊢
  try rw [hkn] at hkl
  have hcI : (c : Int) ≤ 9223372036854775807 := by unfold maxLen at hcm; omega
  obtain ⟨sb, hs⟩ : ∃ s, s = e.sub := ⟨_, rfl⟩
  obtain ⟨k, hk2⟩ : ∃ s, s = e.kind := ⟨_, rfl⟩
  obtain ⟨nn, hnn⟩ : ∃ s, s = e.n := ⟨_, rfl⟩
  obtain ⟨nm, hnm⟩ : ∃ s, s = e.name := ⟨_, rfl⟩
  have HEVL := Lib.hid (show eVal e (.slice p n c) = .agg #[.int .i64 9, .int .i64 sb, .int .i64 k, .int .i64 nn, .string nm, .slice p n c] by rw [hs, hk2, hnn, hnm, ← hf]; rfl)
  rw [HEVL.out]
  have HL := Lib.hid (And.intro hf (And.intro hs (And.intro hk2 (And.intro hnn hnm))))
  have hkw : KIn W0 e (.slice p n c) := hk
  subst hkl
  obtain ⟨x0, hx0⟩ : ∃ x, e.kids[0]? = some x := ⟨_, List.getElem?_eq_getElem (by rw [hkn]; omega)⟩
  obtain ⟨-, -, -, b0, o0, kv0, hp0, hkx0, a00, a01, a02, a03, a04, a05, abl0⟩ := hkw.at hx0
  obtain ⟨q0, dd0, rfl, -, -⟩ := hkx0.slice
  subst hp0
  rw [Nat.zero_mul, Nat.add_zero] at a00 a01 a02 a03 a04 a05
  obtain ⟨m0, hm0⟩ : ∃ m, m = x0.kids.length := ⟨_, rfl⟩
  rw [← hm0] at a05
  have HK0 : Hid (KidC W0 (fun w => RS W0 x B K C vt t mv tk w) B (kindT vt) t x0 (.agg #[.int .i64 x0.form, .int .i64 x0.sub, .int .i64 x0.kind, .int .i64 x0.n, .string x0.name, .slice q0 m0 dd0])) := Lib.hid (by
    have h1 := hkid 0 x0 _ hx0 hkx0
    rw [hm0]
    exact h1)
  have HX0 := Lib.hid hx0
  replace a00 := hst.ext.cell a00
  replace a01 := hst.ext.cell a01
  replace a02 := hst.ext.cell a02
  replace a03 := hst.ext.cell a03
  replace a04 := hst.ext.cell a04
  replace a05 := hst.ext.cell a05
  replace abl0 := Nat.lt_of_lt_of_le abl0 hst.ext.size
  obtain ⟨ev0, hev0⟩ : ∃ z, z = evE (kindT vt) t x0 := ⟨_, rfl⟩
  obtain ⟨kd0, hkd0⟩ : ∃ z, z = kindE (kindT vt) x0 := ⟨_, rfl⟩
  have HEV0 : Hid (∀ w1, Ext w w1 → Calls Try.prog 50 #[.pointer (some ⟨B, 0, none⟩), .agg #[.int .i64 x0.form, .int .i64 x0.sub, .int .i64 x0.kind, .int .i64 x0.n, .string x0.name, .slice q0 m0 dd0]] w1 (RetI ev0 w1)) := Lib.hid (fun w1 h1 => by rw [hev0]; exact HK0.out.ev w1 (hst.next h1))
  have HKD0 : Hid (∀ w1, Ext w w1 → Calls Try.prog 59 #[.agg #[.int .i64 x0.form, .int .i64 x0.sub, .int .i64 x0.kind, .int .i64 x0.n, .string x0.name, .slice q0 m0 dd0], .func (.func 82) #[.pointer (some ⟨B, 0, none⟩)] #[]] w1 (RetI kd0 w1)) := Lib.hid (fun w1 h1 => by rw [hkd0]; exact HK0.out.kd w1 (hst.next h1))
  have HII0 : Hid (I64 ev0) := Lib.hid (by rw [hev0]; exact HK0.out.i64)
  have HEQ0 := Lib.hid (And.intro hev0 hkd0)
  clear hx0 hkx0 hm0 hev0 hkd0
  have HC : Hid (R = ev0) := Lib.hid (by rw [HR.out, evE_9 _ _ e HL.out.1 HX0.out, ← HEQ0.out.1])
  have gl := hst.box.lt
  have hby : BoxV w.heap.size [.int .i64 9, .int .i64 sb, .int .i64 k, .int .i64 nn, .string nm, .slice (some ⟨b0, o0, none⟩) 1 c] (w.alloc (.cells #[.int .i64 9, .int .i64 sb, .int .i64 k, .int .i64 nn, .string nm, .slice (some ⟨b0, o0, none⟩) 1 c] 33)) := BoxV.of_row (heap_alloc_last w _)
  have hxy : Ext w (w.alloc (.cells #[.int .i64 9, .int .i64 sb, .int .i64 k, .int .i64 nn, .string nm, .slice (some ⟨b0, o0, none⟩) 1 c] 33)) := (Ext.refl w).alloc _
  have HXY := Lib.hid hxy
  clear hQ hR hk hok hf hs hk2 hnn hnm hcm hkid hkw hst hkn
  go_enter Try.func78, Try.ntmps78
  go_upto_region 1 with fail
  replace a00 := hxy.cell a00
  replace a01 := hxy.cell a01
  replace a02 := hxy.cell a02
  replace a03 := hxy.cell a03
  replace a04 := hxy.cell a04
  replace a05 := hxy.cell a05
  replace abl0 := Nat.lt_of_lt_of_le abl0 hxy.size
  generalize (w.alloc (.cells #[.int .i64 9, .int .i64 sb, .int .i64 k, .int .i64 nn, .string nm, .slice (some ⟨b0, o0, none⟩) 1 c] 33)) = wy at hby hxy HXY a00 a01 a02 a03 a04 a05 abl0 ⊢
  generalize w.heap.size = Y at hby ⊢
  have d0 := hby.cells 0 _ rfl
  have d1 := hby.cells 1 _ rfl
  have d2 := hby.cells 2 _ rfl
  have d3 := hby.cells 3 _ rfl
  have d4 := hby.cells 4 _ rfl
  have d5 := hby.cells 5 _ rfl
  have hyl := hby.lt
  have HBY := Lib.hid hby
  clear hby hxy
  go_wp2_with (first | (go_at_call 50; refine (HEV0.out _ HXY.out).mono ?_; rintro e1 w1 ⟨rfl, H1⟩) | fail)
  try go_ret
  rw [HQ.out, HC.out]
  exact ⟨rfl, Lib.hid (HXY.out.trans H1.out)⟩
set_option maxHeartbeats 16000000 in
theorem run_any {W0 w : World} {x : S4} {B K C : Nat} {vt : VT} {t : CE0} {mv tk : Value} {e : CE} {kv : Value} (hst : RS W0 x B K C vt t mv tk w) (hk : KIn W0 e kv) (hok : okE e) (hf : e.form = 3) (hkl : e.kids.length = 1) (hkid : ∀ (i : Nat) (x' : CE) (v' : Value), e.kids[i]? = some x' → KIn W0 x' v' → KidC W0 (fun w => RS W0 x B K C vt t mv tk w) B (kindT vt) t x' (eVal x' v')) :
    Calls Try.prog 74 #[.pointer (some ⟨B, 0, none⟩), eVal e kv] w (RetI (evE (kindT vt) t e) w) := by
  obtain ⟨R, hR⟩ : ∃ R, R = evE (kindT vt) t e := ⟨_, rfl⟩
  rw [← hR]
  obtain ⟨Q, hQ⟩ : ∃ Q, Q = RetI R w := ⟨_, rfl⟩
  rw [← hQ]
  have HQ := Lib.hid hQ
  have HR := Lib.hid hR
  have HST := Lib.hid hst
  obtain ⟨p, c, rfl, hkc, hcm⟩ := hk.slice
  obtain ⟨n, hkn⟩ : ∃ n, e.kids.length = n := ⟨_, rfl⟩
  rw [hkn] at hk hkc ⊢
  try rw [hkn] at hkl
  have hcI : (c : Int) ≤ 9223372036854775807 := by unfold maxLen at hcm; omega
  obtain ⟨sb, hs⟩ : ∃ s, s = e.sub := ⟨_, rfl⟩
  obtain ⟨k, hk2⟩ : ∃ s, s = e.kind := ⟨_, rfl⟩
  obtain ⟨nn, hnn⟩ : ∃ s, s = e.n := ⟨_, rfl⟩
  obtain ⟨nm, hnm⟩ : ∃ s, s = e.name := ⟨_, rfl⟩
  have HEVL := Lib.hid (show eVal e (.slice p n c) = .agg #[.int .i64 3, .int .i64 sb, .int .i64 k, .int .i64 nn, .string nm, .slice p n c] by rw [hs, hk2, hnn, hnm, ← hf]; rfl)
  rw [HEVL.out]
  have HL := Lib.hid (And.intro hf (And.intro hs (And.intro hk2 (And.intro hnn hnm))))
  have hkw : KIn W0 e (.slice p n c) := hk
  subst hkl
  obtain ⟨x0, hx0⟩ : ∃ x, e.kids[0]? = some x := ⟨_, List.getElem?_eq_getElem (by rw [hkn]; omega)⟩
  obtain ⟨-, -, -, b0, o0, kv0, hp0, hkx0, a00, a01, a02, a03, a04, a05, abl0⟩ := hkw.at hx0
  obtain ⟨q0, dd0, rfl, -, -⟩ := hkx0.slice
  subst hp0
  rw [Nat.zero_mul, Nat.add_zero] at a00 a01 a02 a03 a04 a05
  obtain ⟨m0, hm0⟩ : ∃ m, m = x0.kids.length := ⟨_, rfl⟩
  rw [← hm0] at a05
  have HK0 : Hid (KidC W0 (fun w => RS W0 x B K C vt t mv tk w) B (kindT vt) t x0 (.agg #[.int .i64 x0.form, .int .i64 x0.sub, .int .i64 x0.kind, .int .i64 x0.n, .string x0.name, .slice q0 m0 dd0])) := Lib.hid (by
    have h1 := hkid 0 x0 _ hx0 hkx0
    rw [hm0]
    exact h1)
  have HX0 := Lib.hid hx0
  replace a00 := hst.ext.cell a00
  replace a01 := hst.ext.cell a01
  replace a02 := hst.ext.cell a02
  replace a03 := hst.ext.cell a03
  replace a04 := hst.ext.cell a04
  replace a05 := hst.ext.cell a05
  replace abl0 := Nat.lt_of_lt_of_le abl0 hst.ext.size
  obtain ⟨ev0, hev0⟩ : ∃ z, z = evE (kindT vt) t x0 := ⟨_, rfl⟩
  obtain ⟨kd0, hkd0⟩ : ∃ z, z = kindE (kindT vt) x0 := ⟨_, rfl⟩
  have HEV0 : Hid (∀ w1, Ext w w1 → Calls Try.prog 50 #[.pointer (some ⟨B, 0, none⟩), .agg #[.int .i64 x0.form, .int .i64 x0.sub, .int .i64 x0.kind, .int .i64 x0.n, .string x0.name, .slice q0 m0 dd0]] w1 (RetI ev0 w1)) := Lib.hid (fun w1 h1 => by rw [hev0]; exact HK0.out.ev w1 (hst.next h1))
  have HKD0 : Hid (∀ w1, Ext w w1 → Calls Try.prog 59 #[.agg #[.int .i64 x0.form, .int .i64 x0.sub, .int .i64 x0.kind, .int .i64 x0.n, .string x0.name, .slice q0 m0 dd0], .func (.func 82) #[.pointer (some ⟨B, 0, none⟩)] #[]] w1 (RetI kd0 w1)) := Lib.hid (fun w1 h1 => by rw [hkd0]; exact HK0.out.kd w1 (hst.next h1))
  have HII0 : Hid (I64 ev0) := Lib.hid (by rw [hev0]; exact HK0.out.i64)
  have HEQ0 := Lib.hid (And.intro hev0 hkd0)
  clear hx0 hkx0 hm0 hev0 hkd0
  have HC : Hid (R = (unv sb kd0 ev0).1) := Lib.hid (by rw [HR.out, evE_3 _ _ e HL.out.1 HX0.out, ← HL.out.2.1, ← HEQ0.out.2, ← HEQ0.out.1])
  have gl := hst.box.lt
  have hby : BoxV w.heap.size [.int .i64 3, .int .i64 sb, .int .i64 k, .int .i64 nn, .string nm, .slice (some ⟨b0, o0, none⟩) 1 c] (w.alloc (.cells #[.int .i64 3, .int .i64 sb, .int .i64 k, .int .i64 nn, .string nm, .slice (some ⟨b0, o0, none⟩) 1 c] 33)) := BoxV.of_row (heap_alloc_last w _)
  have hxy : Ext w (w.alloc (.cells #[.int .i64 3, .int .i64 sb, .int .i64 k, .int .i64 nn, .string nm, .slice (some ⟨b0, o0, none⟩) 1 c] 33)) := (Ext.refl w).alloc _
  have HXY := Lib.hid hxy
  clear hQ hR hk hok hf hs hk2 hnn hnm hcm hkid hkw hst hkn
  go_enter Try.func74, Try.ntmps74
  go_upto_region 1 with fail
  replace a00 := hxy.cell a00
  replace a01 := hxy.cell a01
  replace a02 := hxy.cell a02
  replace a03 := hxy.cell a03
  replace a04 := hxy.cell a04
  replace a05 := hxy.cell a05
  replace abl0 := Nat.lt_of_lt_of_le abl0 hxy.size
  generalize (w.alloc (.cells #[.int .i64 3, .int .i64 sb, .int .i64 k, .int .i64 nn, .string nm, .slice (some ⟨b0, o0, none⟩) 1 c] 33)) = wy at hby hxy HXY a00 a01 a02 a03 a04 a05 abl0 ⊢
  generalize w.heap.size = Y at hby ⊢
  have d0 := hby.cells 0 _ rfl
  have d1 := hby.cells 1 _ rfl
  have d2 := hby.cells 2 _ rfl
  have d3 := hby.cells 3 _ rfl
  have d4 := hby.cells 4 _ rfl
  have d5 := hby.cells 5 _ rfl
  have hyl := hby.lt
  have HBY := Lib.hid hby
  clear hby hxy
  have hmf : ∀ w1, (Instr.makeFunc (.func 82) #[.pointer (some ⟨B, 0, none⟩)] #[]).run Try.prog w1 = .ok (.func (.func 82) #[.pointer (some ⟨B, 0, none⟩)] #[]) w1 := fun w1 => by kernel_rfl
  ((first | (with_reducible refine region_ext2 (by kernel_rfl) (by kernel_rfl) ?_) | refine region_ext (by kernel_rfl) (by kernel_rfl) ?_); (repeat (go_big_quiet_step (first | (with_reducible exact in_ri (HKD0.out _ (HXY.out.trans (Ext.by _ _)))) | (with_reducible exact in_ri (HEV0.out _ (HXY.out.trans (Ext.by _ _)))) | (exact in_ext (bvUn_any _ _ _ _))))); refine wpQuiet_nil ?_; rintro _ ⟨t1, rfl⟩)
  go_wp2
  try go_ret
  rw [HQ.out, HC.out]
  exact ⟨rfl, Lib.hid (HXY.out.trans (Ext.by _ _))⟩
set_option maxHeartbeats 16000000 in
theorem rcast_any {W0 w : World} {x : S4} {B K C : Nat} {vt : VT} {t : CE0} {mv tk : Value} {e : CE} {kv : Value} (hst : RS W0 x B K C vt t mv tk w) (hk : KIn W0 e kv) (hok : okE e) (hf : e.form = 11) (hkl : e.kids.length = 1) (hkid : ∀ (i : Nat) (x' : CE) (v' : Value), e.kids[i]? = some x' → KIn W0 x' v' → KidC W0 (fun w => RS W0 x B K C vt t mv tk w) B (kindT vt) t x' (eVal x' v')) :
    Calls Try.prog 77 #[.pointer (some ⟨B, 0, none⟩), eVal e kv] w (RetI (evE (kindT vt) t e) w) := by
  obtain ⟨R, hR⟩ : ∃ R, R = evE (kindT vt) t e := ⟨_, rfl⟩
  rw [← hR]
  obtain ⟨Q, hQ⟩ : ∃ Q, Q = RetI R w := ⟨_, rfl⟩
  rw [← hQ]
  have HQ := Lib.hid hQ
  have HR := Lib.hid hR
  have HST := Lib.hid hst
  obtain ⟨p, c, rfl, hkc, hcm⟩ := hk.slice
  obtain ⟨n, hkn⟩ : ∃ n, e.kids.length = n := ⟨_, rfl⟩
  rw [hkn] at hk hkc ⊢
  try rw [hkn] at hkl
  have hcI : (c : Int) ≤ 9223372036854775807 := by unfold maxLen at hcm; omega
  obtain ⟨sb, hs⟩ : ∃ s, s = e.sub := ⟨_, rfl⟩
  obtain ⟨k, hk2⟩ : ∃ s, s = e.kind := ⟨_, rfl⟩
  obtain ⟨nn, hnn⟩ : ∃ s, s = e.n := ⟨_, rfl⟩
  obtain ⟨nm, hnm⟩ : ∃ s, s = e.name := ⟨_, rfl⟩
  have HEVL := Lib.hid (show eVal e (.slice p n c) = .agg #[.int .i64 11, .int .i64 sb, .int .i64 k, .int .i64 nn, .string nm, .slice p n c] by rw [hs, hk2, hnn, hnm, ← hf]; rfl)
  rw [HEVL.out]
  have HL := Lib.hid (And.intro hf (And.intro hs (And.intro hk2 (And.intro hnn hnm))))
  have hkw : KIn W0 e (.slice p n c) := hk
  subst hkl
  obtain ⟨x0, hx0⟩ : ∃ x, e.kids[0]? = some x := ⟨_, List.getElem?_eq_getElem (by rw [hkn]; omega)⟩
  obtain ⟨-, -, -, b0, o0, kv0, hp0, hkx0, a00, a01, a02, a03, a04, a05, abl0⟩ := hkw.at hx0
  obtain ⟨q0, dd0, rfl, -, -⟩ := hkx0.slice
  subst hp0
  rw [Nat.zero_mul, Nat.add_zero] at a00 a01 a02 a03 a04 a05
  obtain ⟨m0, hm0⟩ : ∃ m, m = x0.kids.length := ⟨_, rfl⟩
  rw [← hm0] at a05
  have HK0 : Hid (KidC W0 (fun w => RS W0 x B K C vt t mv tk w) B (kindT vt) t x0 (.agg #[.int .i64 x0.form, .int .i64 x0.sub, .int .i64 x0.kind, .int .i64 x0.n, .string x0.name, .slice q0 m0 dd0])) := Lib.hid (by
    have h1 := hkid 0 x0 _ hx0 hkx0
    rw [hm0]
    exact h1)
  have HX0 := Lib.hid hx0
  replace a00 := hst.ext.cell a00
  replace a01 := hst.ext.cell a01
  replace a02 := hst.ext.cell a02
  replace a03 := hst.ext.cell a03
  replace a04 := hst.ext.cell a04
  replace a05 := hst.ext.cell a05
  replace abl0 := Nat.lt_of_lt_of_le abl0 hst.ext.size
  obtain ⟨ev0, hev0⟩ : ∃ z, z = evE (kindT vt) t x0 := ⟨_, rfl⟩
  obtain ⟨kd0, hkd0⟩ : ∃ z, z = kindE (kindT vt) x0 := ⟨_, rfl⟩
  have HEV0 : Hid (∀ w1, Ext w w1 → Calls Try.prog 50 #[.pointer (some ⟨B, 0, none⟩), .agg #[.int .i64 x0.form, .int .i64 x0.sub, .int .i64 x0.kind, .int .i64 x0.n, .string x0.name, .slice q0 m0 dd0]] w1 (RetI ev0 w1)) := Lib.hid (fun w1 h1 => by rw [hev0]; exact HK0.out.ev w1 (hst.next h1))
  have HKD0 : Hid (∀ w1, Ext w w1 → Calls Try.prog 59 #[.agg #[.int .i64 x0.form, .int .i64 x0.sub, .int .i64 x0.kind, .int .i64 x0.n, .string x0.name, .slice q0 m0 dd0], .func (.func 82) #[.pointer (some ⟨B, 0, none⟩)] #[]] w1 (RetI kd0 w1)) := Lib.hid (fun w1 h1 => by rw [hkd0]; exact HK0.out.kd w1 (hst.next h1))
  have HII0 : Hid (I64 ev0) := Lib.hid (by rw [hev0]; exact HK0.out.i64)
  have HEQ0 := Lib.hid (And.intro hev0 hkd0)
  clear hx0 hkx0 hm0 hev0 hkd0
  have HC : Hid (R = (castv kd0 k ev0).1) := Lib.hid (by rw [HR.out, evE_11 _ _ e HL.out.1 HX0.out, ← HL.out.2.2.1, ← HEQ0.out.2, ← HEQ0.out.1])
  have gl := hst.box.lt
  have hby : BoxV w.heap.size [.int .i64 11, .int .i64 sb, .int .i64 k, .int .i64 nn, .string nm, .slice (some ⟨b0, o0, none⟩) 1 c] (w.alloc (.cells #[.int .i64 11, .int .i64 sb, .int .i64 k, .int .i64 nn, .string nm, .slice (some ⟨b0, o0, none⟩) 1 c] 33)) := BoxV.of_row (heap_alloc_last w _)
  have hxy : Ext w (w.alloc (.cells #[.int .i64 11, .int .i64 sb, .int .i64 k, .int .i64 nn, .string nm, .slice (some ⟨b0, o0, none⟩) 1 c] 33)) := (Ext.refl w).alloc _
  have HXY := Lib.hid hxy
  clear hQ hR hk hok hf hs hk2 hnn hnm hcm hkid hkw hst hkn
  go_enter Try.func77, Try.ntmps77
  go_upto_region 1 with fail
  replace a00 := hxy.cell a00
  replace a01 := hxy.cell a01
  replace a02 := hxy.cell a02
  replace a03 := hxy.cell a03
  replace a04 := hxy.cell a04
  replace a05 := hxy.cell a05
  replace abl0 := Nat.lt_of_lt_of_le abl0 hxy.size
  generalize (w.alloc (.cells #[.int .i64 11, .int .i64 sb, .int .i64 k, .int .i64 nn, .string nm, .slice (some ⟨b0, o0, none⟩) 1 c] 33)) = wy at hby hxy HXY a00 a01 a02 a03 a04 a05 abl0 ⊢
  generalize w.heap.size = Y at hby ⊢
  have d0 := hby.cells 0 _ rfl
  have d1 := hby.cells 1 _ rfl
  have d2 := hby.cells 2 _ rfl
  have d3 := hby.cells 3 _ rfl
  have d4 := hby.cells 4 _ rfl
  have d5 := hby.cells 5 _ rfl
  have hyl := hby.lt
  have HBY := Lib.hid hby
  clear hby hxy
  have hmf : ∀ w1, (Instr.makeFunc (.func 82) #[.pointer (some ⟨B, 0, none⟩)] #[]).run Try.prog w1 = .ok (.func (.func 82) #[.pointer (some ⟨B, 0, none⟩)] #[]) w1 := fun w1 => by kernel_rfl
  ((first | (with_reducible refine region_ext2 (by kernel_rfl) (by kernel_rfl) ?_) | refine region_ext (by kernel_rfl) (by kernel_rfl) ?_); (repeat (go_big_quiet_step (first | (with_reducible exact in_ri (HKD0.out _ (HXY.out.trans (Ext.by _ _)))) | (with_reducible exact in_ri (HEV0.out _ (HXY.out.trans (Ext.by _ _)))) | (exact in_ext (bvCast_any _ _ _ _))))); refine wpQuiet_nil ?_; rintro _ ⟨t1, rfl⟩)
  go_wp2
  try go_ret
  rw [HQ.out, HC.out]
  exact ⟨rfl, Lib.hid (HXY.out.trans (Ext.by _ _))⟩
set_option maxHeartbeats 16000000 in
theorem rbin_any {W0 w : World} {x : S4} {B K C : Nat} {vt : VT} {t : CE0} {mv tk : Value} {e : CE} {kv : Value} (hst : RS W0 x B K C vt t mv tk w) (hk : KIn W0 e kv) (hok : okE e) (hf : e.form = 4) (hkl : e.kids.length = 2) (hkid : ∀ (i : Nat) (x' : CE) (v' : Value), e.kids[i]? = some x' → KIn W0 x' v' → KidC W0 (fun w => RS W0 x B K C vt t mv tk w) B (kindT vt) t x' (eVal x' v')) :
    Calls Try.prog 75 #[.pointer (some ⟨B, 0, none⟩), eVal e kv] w (RetI (evE (kindT vt) t e) w) := by
  obtain ⟨R, hR⟩ : ∃ R, R = evE (kindT vt) t e := ⟨_, rfl⟩
  rw [← hR]
  obtain ⟨Q, hQ⟩ : ∃ Q, Q = RetI R w := ⟨_, rfl⟩
  rw [← hQ]
  have HQ := Lib.hid hQ
  have HR := Lib.hid hR
  have HST := Lib.hid hst
  obtain ⟨p, c, rfl, hkc, hcm⟩ := hk.slice
  obtain ⟨n, hkn⟩ : ∃ n, e.kids.length = n := ⟨_, rfl⟩
  rw [hkn] at hk hkc ⊢
  try rw [hkn] at hkl
  have hcI : (c : Int) ≤ 9223372036854775807 := by unfold maxLen at hcm; omega
  obtain ⟨sb, hs⟩ : ∃ s, s = e.sub := ⟨_, rfl⟩
  obtain ⟨k, hk2⟩ : ∃ s, s = e.kind := ⟨_, rfl⟩
  obtain ⟨nn, hnn⟩ : ∃ s, s = e.n := ⟨_, rfl⟩
  obtain ⟨nm, hnm⟩ : ∃ s, s = e.name := ⟨_, rfl⟩
  have HEVL := Lib.hid (show eVal e (.slice p n c) = .agg #[.int .i64 4, .int .i64 sb, .int .i64 k, .int .i64 nn, .string nm, .slice p n c] by rw [hs, hk2, hnn, hnm, ← hf]; rfl)
  rw [HEVL.out]
  have HL := Lib.hid (And.intro hf (And.intro hs (And.intro hk2 (And.intro hnn hnm))))
  have hkw : KIn W0 e (.slice p n c) := hk
  subst hkl
  obtain ⟨x0, hx0⟩ : ∃ x, e.kids[0]? = some x := ⟨_, List.getElem?_eq_getElem (by rw [hkn]; omega)⟩
  obtain ⟨-, -, -, b0, o0, kv0, hp0, hkx0, a00, a01, a02, a03, a04, a05, abl0⟩ := hkw.at hx0
  obtain ⟨q0, dd0, rfl, -, -⟩ := hkx0.slice
  subst hp0
  rw [Nat.zero_mul, Nat.add_zero] at a00 a01 a02 a03 a04 a05
  obtain ⟨m0, hm0⟩ : ∃ m, m = x0.kids.length := ⟨_, rfl⟩
  rw [← hm0] at a05
  have HK0 : Hid (KidC W0 (fun w => RS W0 x B K C vt t mv tk w) B (kindT vt) t x0 (.agg #[.int .i64 x0.form, .int .i64 x0.sub, .int .i64 x0.kind, .int .i64 x0.n, .string x0.name, .slice q0 m0 dd0])) := Lib.hid (by
    have h1 := hkid 0 x0 _ hx0 hkx0
    rw [hm0]
    exact h1)
  have HX0 := Lib.hid hx0
  replace a00 := hst.ext.cell a00
  replace a01 := hst.ext.cell a01
  replace a02 := hst.ext.cell a02
  replace a03 := hst.ext.cell a03
  replace a04 := hst.ext.cell a04
  replace a05 := hst.ext.cell a05
  replace abl0 := Nat.lt_of_lt_of_le abl0 hst.ext.size
  obtain ⟨ev0, hev0⟩ : ∃ z, z = evE (kindT vt) t x0 := ⟨_, rfl⟩
  obtain ⟨kd0, hkd0⟩ : ∃ z, z = kindE (kindT vt) x0 := ⟨_, rfl⟩
  have HEV0 : Hid (∀ w1, Ext w w1 → Calls Try.prog 50 #[.pointer (some ⟨B, 0, none⟩), .agg #[.int .i64 x0.form, .int .i64 x0.sub, .int .i64 x0.kind, .int .i64 x0.n, .string x0.name, .slice q0 m0 dd0]] w1 (RetI ev0 w1)) := Lib.hid (fun w1 h1 => by rw [hev0]; exact HK0.out.ev w1 (hst.next h1))
  have HKD0 : Hid (∀ w1, Ext w w1 → Calls Try.prog 59 #[.agg #[.int .i64 x0.form, .int .i64 x0.sub, .int .i64 x0.kind, .int .i64 x0.n, .string x0.name, .slice q0 m0 dd0], .func (.func 82) #[.pointer (some ⟨B, 0, none⟩)] #[]] w1 (RetI kd0 w1)) := Lib.hid (fun w1 h1 => by rw [hkd0]; exact HK0.out.kd w1 (hst.next h1))
  have HII0 : Hid (I64 ev0) := Lib.hid (by rw [hev0]; exact HK0.out.i64)
  have HEQ0 := Lib.hid (And.intro hev0 hkd0)
  clear hx0 hkx0 hm0 hev0 hkd0
  obtain ⟨x1, hx1⟩ : ∃ x, e.kids[1]? = some x := ⟨_, List.getElem?_eq_getElem (by rw [hkn]; omega)⟩
  obtain ⟨-, -, -, b1, o1, kv1, hp1, hkx1, a10, a11, a12, a13, a14, a15, abl1⟩ := hkw.at hx1
  obtain ⟨q1, dd1, rfl, -, -⟩ := hkx1.slice
  simp only [Option.some.injEq, Addr.mk.injEq] at hp1
  obtain ⟨rfl, rfl, -⟩ := hp1
  rw [Nat.one_mul] at a10 a11 a12 a13 a14 a15
  obtain ⟨m1, hm1⟩ : ∃ m, m = x1.kids.length := ⟨_, rfl⟩
  rw [← hm1] at a15
  have HK1 : Hid (KidC W0 (fun w => RS W0 x B K C vt t mv tk w) B (kindT vt) t x1 (.agg #[.int .i64 x1.form, .int .i64 x1.sub, .int .i64 x1.kind, .int .i64 x1.n, .string x1.name, .slice q1 m1 dd1])) := Lib.hid (by
    have h1 := hkid 1 x1 _ hx1 hkx1
    rw [hm1]
    exact h1)
  have HX1 := Lib.hid hx1
  replace a10 := hst.ext.cell a10
  replace a11 := hst.ext.cell a11
  replace a12 := hst.ext.cell a12
  replace a13 := hst.ext.cell a13
  replace a14 := hst.ext.cell a14
  replace a15 := hst.ext.cell a15
  replace abl1 := Nat.lt_of_lt_of_le abl1 hst.ext.size
  obtain ⟨ev1, hev1⟩ : ∃ z, z = evE (kindT vt) t x1 := ⟨_, rfl⟩
  obtain ⟨kd1, hkd1⟩ : ∃ z, z = kindE (kindT vt) x1 := ⟨_, rfl⟩
  have HEV1 : Hid (∀ w1, Ext w w1 → Calls Try.prog 50 #[.pointer (some ⟨B, 0, none⟩), .agg #[.int .i64 x1.form, .int .i64 x1.sub, .int .i64 x1.kind, .int .i64 x1.n, .string x1.name, .slice q1 m1 dd1]] w1 (RetI ev1 w1)) := Lib.hid (fun w1 h1 => by rw [hev1]; exact HK1.out.ev w1 (hst.next h1))
  have HKD1 : Hid (∀ w1, Ext w w1 → Calls Try.prog 59 #[.agg #[.int .i64 x1.form, .int .i64 x1.sub, .int .i64 x1.kind, .int .i64 x1.n, .string x1.name, .slice q1 m1 dd1], .func (.func 82) #[.pointer (some ⟨B, 0, none⟩)] #[]] w1 (RetI kd1 w1)) := Lib.hid (fun w1 h1 => by rw [hkd1]; exact HK1.out.kd w1 (hst.next h1))
  have HII1 : Hid (I64 ev1) := Lib.hid (by rw [hev1]; exact HK1.out.i64)
  have HEQ1 := Lib.hid (And.intro hev1 hkd1)
  clear hx1 hkx1 hm1 hev1 hkd1
  have HC : Hid (R = (binv sb kd0 ev0 ev1).1) := Lib.hid (by rw [HR.out, evE_4 _ _ e HL.out.1 HX0.out HX1.out, ← HL.out.2.1, ← HEQ0.out.2, ← HEQ0.out.1, ← HEQ1.out.1])
  have gl := hst.box.lt
  have hby : BoxV w.heap.size [.int .i64 4, .int .i64 sb, .int .i64 k, .int .i64 nn, .string nm, .slice (some ⟨b0, o0, none⟩) 2 c] (w.alloc (.cells #[.int .i64 4, .int .i64 sb, .int .i64 k, .int .i64 nn, .string nm, .slice (some ⟨b0, o0, none⟩) 2 c] 33)) := BoxV.of_row (heap_alloc_last w _)
  have hxy : Ext w (w.alloc (.cells #[.int .i64 4, .int .i64 sb, .int .i64 k, .int .i64 nn, .string nm, .slice (some ⟨b0, o0, none⟩) 2 c] 33)) := (Ext.refl w).alloc _
  have HXY := Lib.hid hxy
  clear hQ hR hk hok hf hs hk2 hnn hnm hcm hkid hkw hst hkn
  go_enter Try.func75, Try.ntmps75
  go_upto_region 1 with fail
  replace a00 := hxy.cell a00
  replace a01 := hxy.cell a01
  replace a02 := hxy.cell a02
  replace a03 := hxy.cell a03
  replace a04 := hxy.cell a04
  replace a05 := hxy.cell a05
  replace abl0 := Nat.lt_of_lt_of_le abl0 hxy.size
  replace a10 := hxy.cell a10
  replace a11 := hxy.cell a11
  replace a12 := hxy.cell a12
  replace a13 := hxy.cell a13
  replace a14 := hxy.cell a14
  replace a15 := hxy.cell a15
  replace abl1 := Nat.lt_of_lt_of_le abl1 hxy.size
  generalize (w.alloc (.cells #[.int .i64 4, .int .i64 sb, .int .i64 k, .int .i64 nn, .string nm, .slice (some ⟨b0, o0, none⟩) 2 c] 33)) = wy at hby hxy HXY a00 a01 a02 a03 a04 a05 abl0 a10 a11 a12 a13 a14 a15 abl1 ⊢
  generalize w.heap.size = Y at hby ⊢
  have d0 := hby.cells 0 _ rfl
  have d1 := hby.cells 1 _ rfl
  have d2 := hby.cells 2 _ rfl
  have d3 := hby.cells 3 _ rfl
  have d4 := hby.cells 4 _ rfl
  have d5 := hby.cells 5 _ rfl
  have hyl := hby.lt
  have HBY := Lib.hid hby
  clear hby hxy
  have hmf : ∀ w1, (Instr.makeFunc (.func 82) #[.pointer (some ⟨B, 0, none⟩)] #[]).run Try.prog w1 = .ok (.func (.func 82) #[.pointer (some ⟨B, 0, none⟩)] #[]) w1 := fun w1 => by kernel_rfl
  ((first | (with_reducible refine region_ext2 (by kernel_rfl) (by kernel_rfl) ?_) | refine region_ext (by kernel_rfl) (by kernel_rfl) ?_); (repeat (go_big_quiet_step (first | (with_reducible exact in_ri (HKD0.out _ (HXY.out.trans (Ext.by _ _)))) | (with_reducible exact in_ri (HEV0.out _ (HXY.out.trans (Ext.by _ _)))) | (with_reducible exact in_ri (HEV1.out _ (HXY.out.trans (Ext.by _ _)))) | (exact in_ext (bvBin_any _ _ _ _ HII1.out _))))); refine wpQuiet_nil ?_; rintro _ ⟨t1, rfl⟩)
  go_wp2
  try go_ret
  rw [HQ.out, HC.out]
  exact ⟨rfl, Lib.hid (HXY.out.trans (Ext.by _ _))⟩
set_option maxHeartbeats 16000000 in
theorem rchoice_any {W0 w : World} {x : S4} {B K C : Nat} {vt : VT} {t : CE0} {mv tk : Value} {e : CE} {kv : Value} (hst : RS W0 x B K C vt t mv tk w) (hk : KIn W0 e kv) (hok : okE e) (hf : e.form = 5) (hkl : e.kids.length = 3) (hkid : ∀ (i : Nat) (x' : CE) (v' : Value), e.kids[i]? = some x' → KIn W0 x' v' → KidC W0 (fun w => RS W0 x B K C vt t mv tk w) B (kindT vt) t x' (eVal x' v')) :
    Calls Try.prog 76 #[.pointer (some ⟨B, 0, none⟩), eVal e kv] w (RetI (evE (kindT vt) t e) w) := by
  obtain ⟨R, hR⟩ : ∃ R, R = evE (kindT vt) t e := ⟨_, rfl⟩
  rw [← hR]
  obtain ⟨Q, hQ⟩ : ∃ Q, Q = RetI R w := ⟨_, rfl⟩
  rw [← hQ]
  have HQ := Lib.hid hQ
  have HR := Lib.hid hR
  have HST := Lib.hid hst
  obtain ⟨p, c, rfl, hkc, hcm⟩ := hk.slice
  obtain ⟨n, hkn⟩ : ∃ n, e.kids.length = n := ⟨_, rfl⟩
  rw [hkn] at hk hkc ⊢
  try rw [hkn] at hkl
  have hcI : (c : Int) ≤ 9223372036854775807 := by unfold maxLen at hcm; omega
  obtain ⟨sb, hs⟩ : ∃ s, s = e.sub := ⟨_, rfl⟩
  obtain ⟨k, hk2⟩ : ∃ s, s = e.kind := ⟨_, rfl⟩
  obtain ⟨nn, hnn⟩ : ∃ s, s = e.n := ⟨_, rfl⟩
  obtain ⟨nm, hnm⟩ : ∃ s, s = e.name := ⟨_, rfl⟩
  have HEVL := Lib.hid (show eVal e (.slice p n c) = .agg #[.int .i64 5, .int .i64 sb, .int .i64 k, .int .i64 nn, .string nm, .slice p n c] by rw [hs, hk2, hnn, hnm, ← hf]; rfl)
  rw [HEVL.out]
  have HL := Lib.hid (And.intro hf (And.intro hs (And.intro hk2 (And.intro hnn hnm))))
  have hkw : KIn W0 e (.slice p n c) := hk
  subst hkl
  obtain ⟨x0, hx0⟩ : ∃ x, e.kids[0]? = some x := ⟨_, List.getElem?_eq_getElem (by rw [hkn]; omega)⟩
  obtain ⟨-, -, -, b0, o0, kv0, hp0, hkx0, a00, a01, a02, a03, a04, a05, abl0⟩ := hkw.at hx0
  obtain ⟨q0, dd0, rfl, -, -⟩ := hkx0.slice
  subst hp0
  rw [Nat.zero_mul, Nat.add_zero] at a00 a01 a02 a03 a04 a05
  obtain ⟨m0, hm0⟩ : ∃ m, m = x0.kids.length := ⟨_, rfl⟩
  rw [← hm0] at a05
  have HK0 : Hid (KidC W0 (fun w => RS W0 x B K C vt t mv tk w) B (kindT vt) t x0 (.agg #[.int .i64 x0.form, .int .i64 x0.sub, .int .i64 x0.kind, .int .i64 x0.n, .string x0.name, .slice q0 m0 dd0])) := Lib.hid (by
    have h1 := hkid 0 x0 _ hx0 hkx0
    rw [hm0]
    exact h1)
  have HX0 := Lib.hid hx0
  replace a00 := hst.ext.cell a00
  replace a01 := hst.ext.cell a01
  replace a02 := hst.ext.cell a02
  replace a03 := hst.ext.cell a03
  replace a04 := hst.ext.cell a04
  replace a05 := hst.ext.cell a05
  replace abl0 := Nat.lt_of_lt_of_le abl0 hst.ext.size
  obtain ⟨ev0, hev0⟩ : ∃ z, z = evE (kindT vt) t x0 := ⟨_, rfl⟩
  obtain ⟨kd0, hkd0⟩ : ∃ z, z = kindE (kindT vt) x0 := ⟨_, rfl⟩
  have HEV0 : Hid (∀ w1, Ext w w1 → Calls Try.prog 50 #[.pointer (some ⟨B, 0, none⟩), .agg #[.int .i64 x0.form, .int .i64 x0.sub, .int .i64 x0.kind, .int .i64 x0.n, .string x0.name, .slice q0 m0 dd0]] w1 (RetI ev0 w1)) := Lib.hid (fun w1 h1 => by rw [hev0]; exact HK0.out.ev w1 (hst.next h1))
  have HKD0 : Hid (∀ w1, Ext w w1 → Calls Try.prog 59 #[.agg #[.int .i64 x0.form, .int .i64 x0.sub, .int .i64 x0.kind, .int .i64 x0.n, .string x0.name, .slice q0 m0 dd0], .func (.func 82) #[.pointer (some ⟨B, 0, none⟩)] #[]] w1 (RetI kd0 w1)) := Lib.hid (fun w1 h1 => by rw [hkd0]; exact HK0.out.kd w1 (hst.next h1))
  have HII0 : Hid (I64 ev0) := Lib.hid (by rw [hev0]; exact HK0.out.i64)
  have HEQ0 := Lib.hid (And.intro hev0 hkd0)
  clear hx0 hkx0 hm0 hev0 hkd0
  obtain ⟨x1, hx1⟩ : ∃ x, e.kids[1]? = some x := ⟨_, List.getElem?_eq_getElem (by rw [hkn]; omega)⟩
  obtain ⟨-, -, -, b1, o1, kv1, hp1, hkx1, a10, a11, a12, a13, a14, a15, abl1⟩ := hkw.at hx1
  obtain ⟨q1, dd1, rfl, -, -⟩ := hkx1.slice
  simp only [Option.some.injEq, Addr.mk.injEq] at hp1
  obtain ⟨rfl, rfl, -⟩ := hp1
  rw [Nat.one_mul] at a10 a11 a12 a13 a14 a15
  obtain ⟨m1, hm1⟩ : ∃ m, m = x1.kids.length := ⟨_, rfl⟩
  rw [← hm1] at a15
  have HK1 : Hid (KidC W0 (fun w => RS W0 x B K C vt t mv tk w) B (kindT vt) t x1 (.agg #[.int .i64 x1.form, .int .i64 x1.sub, .int .i64 x1.kind, .int .i64 x1.n, .string x1.name, .slice q1 m1 dd1])) := Lib.hid (by
    have h1 := hkid 1 x1 _ hx1 hkx1
    rw [hm1]
    exact h1)
  have HX1 := Lib.hid hx1
  replace a10 := hst.ext.cell a10
  replace a11 := hst.ext.cell a11
  replace a12 := hst.ext.cell a12
  replace a13 := hst.ext.cell a13
  replace a14 := hst.ext.cell a14
  replace a15 := hst.ext.cell a15
  replace abl1 := Nat.lt_of_lt_of_le abl1 hst.ext.size
  obtain ⟨ev1, hev1⟩ : ∃ z, z = evE (kindT vt) t x1 := ⟨_, rfl⟩
  obtain ⟨kd1, hkd1⟩ : ∃ z, z = kindE (kindT vt) x1 := ⟨_, rfl⟩
  have HEV1 : Hid (∀ w1, Ext w w1 → Calls Try.prog 50 #[.pointer (some ⟨B, 0, none⟩), .agg #[.int .i64 x1.form, .int .i64 x1.sub, .int .i64 x1.kind, .int .i64 x1.n, .string x1.name, .slice q1 m1 dd1]] w1 (RetI ev1 w1)) := Lib.hid (fun w1 h1 => by rw [hev1]; exact HK1.out.ev w1 (hst.next h1))
  have HKD1 : Hid (∀ w1, Ext w w1 → Calls Try.prog 59 #[.agg #[.int .i64 x1.form, .int .i64 x1.sub, .int .i64 x1.kind, .int .i64 x1.n, .string x1.name, .slice q1 m1 dd1], .func (.func 82) #[.pointer (some ⟨B, 0, none⟩)] #[]] w1 (RetI kd1 w1)) := Lib.hid (fun w1 h1 => by rw [hkd1]; exact HK1.out.kd w1 (hst.next h1))
  have HII1 : Hid (I64 ev1) := Lib.hid (by rw [hev1]; exact HK1.out.i64)
  have HEQ1 := Lib.hid (And.intro hev1 hkd1)
  clear hx1 hkx1 hm1 hev1 hkd1
  obtain ⟨x2, hx2⟩ : ∃ x, e.kids[2]? = some x := ⟨_, List.getElem?_eq_getElem (by rw [hkn]; omega)⟩
  obtain ⟨-, -, -, b2, o2, kv2, hp2, hkx2, a20, a21, a22, a23, a24, a25, abl2⟩ := hkw.at hx2
  obtain ⟨q2, dd2, rfl, -, -⟩ := hkx2.slice
  simp only [Option.some.injEq, Addr.mk.injEq] at hp2
  obtain ⟨rfl, rfl, -⟩ := hp2
  rw [show 2 * 6 = 12 from rfl] at a20
  rw [show 2 * 6 = 12 from rfl] at a21
  rw [show 2 * 6 = 12 from rfl] at a22
  rw [show 2 * 6 = 12 from rfl] at a23
  rw [show 2 * 6 = 12 from rfl] at a24
  rw [show 2 * 6 = 12 from rfl] at a25
  obtain ⟨m2, hm2⟩ : ∃ m, m = x2.kids.length := ⟨_, rfl⟩
  rw [← hm2] at a25
  have HK2 : Hid (KidC W0 (fun w => RS W0 x B K C vt t mv tk w) B (kindT vt) t x2 (.agg #[.int .i64 x2.form, .int .i64 x2.sub, .int .i64 x2.kind, .int .i64 x2.n, .string x2.name, .slice q2 m2 dd2])) := Lib.hid (by
    have h1 := hkid 2 x2 _ hx2 hkx2
    rw [hm2]
    exact h1)
  have HX2 := Lib.hid hx2
  replace a20 := hst.ext.cell a20
  replace a21 := hst.ext.cell a21
  replace a22 := hst.ext.cell a22
  replace a23 := hst.ext.cell a23
  replace a24 := hst.ext.cell a24
  replace a25 := hst.ext.cell a25
  replace abl2 := Nat.lt_of_lt_of_le abl2 hst.ext.size
  obtain ⟨ev2, hev2⟩ : ∃ z, z = evE (kindT vt) t x2 := ⟨_, rfl⟩
  obtain ⟨kd2, hkd2⟩ : ∃ z, z = kindE (kindT vt) x2 := ⟨_, rfl⟩
  have HEV2 : Hid (∀ w1, Ext w w1 → Calls Try.prog 50 #[.pointer (some ⟨B, 0, none⟩), .agg #[.int .i64 x2.form, .int .i64 x2.sub, .int .i64 x2.kind, .int .i64 x2.n, .string x2.name, .slice q2 m2 dd2]] w1 (RetI ev2 w1)) := Lib.hid (fun w1 h1 => by rw [hev2]; exact HK2.out.ev w1 (hst.next h1))
  have HKD2 : Hid (∀ w1, Ext w w1 → Calls Try.prog 59 #[.agg #[.int .i64 x2.form, .int .i64 x2.sub, .int .i64 x2.kind, .int .i64 x2.n, .string x2.name, .slice q2 m2 dd2], .func (.func 82) #[.pointer (some ⟨B, 0, none⟩)] #[]] w1 (RetI kd2 w1)) := Lib.hid (fun w1 h1 => by rw [hkd2]; exact HK2.out.kd w1 (hst.next h1))
  have HII2 : Hid (I64 ev2) := Lib.hid (by rw [hev2]; exact HK2.out.i64)
  have HEQ2 := Lib.hid (And.intro hev2 hkd2)
  clear hx2 hkx2 hm2 hev2 hkd2
  have HC : Hid (R = if ev0 ≠ 0 then ev1 else ev2) := Lib.hid (by rw [HR.out, evE_5 _ _ e HL.out.1 HX0.out HX1.out HX2.out, ← HEQ0.out.1, ← HEQ1.out.1, ← HEQ2.out.1])
  have gl := hst.box.lt
  have hby : BoxV w.heap.size [.int .i64 5, .int .i64 sb, .int .i64 k, .int .i64 nn, .string nm, .slice (some ⟨b0, o0, none⟩) 3 c] (w.alloc (.cells #[.int .i64 5, .int .i64 sb, .int .i64 k, .int .i64 nn, .string nm, .slice (some ⟨b0, o0, none⟩) 3 c] 33)) := BoxV.of_row (heap_alloc_last w _)
  have hxy : Ext w (w.alloc (.cells #[.int .i64 5, .int .i64 sb, .int .i64 k, .int .i64 nn, .string nm, .slice (some ⟨b0, o0, none⟩) 3 c] 33)) := (Ext.refl w).alloc _
  have HXY := Lib.hid hxy
  clear hQ hR hk hok hf hs hk2 hnn hnm hcm hkid hkw hst hkn
  go_enter Try.func76, Try.ntmps76
  go_upto_region 1 with fail
  replace a00 := hxy.cell a00
  replace a01 := hxy.cell a01
  replace a02 := hxy.cell a02
  replace a03 := hxy.cell a03
  replace a04 := hxy.cell a04
  replace a05 := hxy.cell a05
  replace abl0 := Nat.lt_of_lt_of_le abl0 hxy.size
  replace a10 := hxy.cell a10
  replace a11 := hxy.cell a11
  replace a12 := hxy.cell a12
  replace a13 := hxy.cell a13
  replace a14 := hxy.cell a14
  replace a15 := hxy.cell a15
  replace abl1 := Nat.lt_of_lt_of_le abl1 hxy.size
  replace a20 := hxy.cell a20
  replace a21 := hxy.cell a21
  replace a22 := hxy.cell a22
  replace a23 := hxy.cell a23
  replace a24 := hxy.cell a24
  replace a25 := hxy.cell a25
  replace abl2 := Nat.lt_of_lt_of_le abl2 hxy.size
  generalize (w.alloc (.cells #[.int .i64 5, .int .i64 sb, .int .i64 k, .int .i64 nn, .string nm, .slice (some ⟨b0, o0, none⟩) 3 c] 33)) = wy at hby hxy HXY a00 a01 a02 a03 a04 a05 abl0 a10 a11 a12 a13 a14 a15 abl1 a20 a21 a22 a23 a24 a25 abl2 ⊢
  generalize w.heap.size = Y at hby ⊢
  have d0 := hby.cells 0 _ rfl
  have d1 := hby.cells 1 _ rfl
  have d2 := hby.cells 2 _ rfl
  have d3 := hby.cells 3 _ rfl
  have d4 := hby.cells 4 _ rfl
  have d5 := hby.cells 5 _ rfl
  have hyl := hby.lt
  have HBY := Lib.hid hby
  clear hby hxy
  by_cases hz : ev0 = 0
  · have HC2 : Hid (R = ev2) := Lib.hid (by rw [HC.out]; simp [hz])
    have hq : (ev0 != 0) = false := by simpa using hz
    clear hz
    go_wp2_with (first | (go_at_call 50; (with_reducible refine (HEV0.out _ HXY.out).mono ?_); rintro e1 w1 ⟨rfl, H1⟩; have d5 := H1.out.cell d5; have hyl := Nat.lt_of_lt_of_le hyl H1.out.size; have a10 := H1.out.cell a10; have a11 := H1.out.cell a11; have a12 := H1.out.cell a12; have a13 := H1.out.cell a13; have a14 := H1.out.cell a14; have a15 := H1.out.cell a15; have abl1 := Nat.lt_of_lt_of_le abl1 H1.out.size; have a20 := H1.out.cell a20; have a21 := H1.out.cell a21; have a22 := H1.out.cell a22; have a23 := H1.out.cell a23; have a24 := H1.out.cell a24; have a25 := H1.out.cell a25; have abl2 := Nat.lt_of_lt_of_le abl2 H1.out.size) | (go_at_call 50; (with_reducible refine (HEV2.out _ (HXY.out.trans H1.out)).mono ?_); rintro e2 w2 ⟨rfl, H2⟩) | fail)
    try go_ret
    rw [HQ.out, HC2.out]
    exact ⟨rfl, Lib.hid ((HXY.out.trans H1.out).trans H2.out)⟩
  · have HC2 : Hid (R = ev1) := Lib.hid (by rw [HC.out]; simp [hz])
    have hq : (ev0 != 0) = true := by simpa using hz
    clear hz
    go_wp2_with (first | (go_at_call 50; (with_reducible refine (HEV0.out _ HXY.out).mono ?_); rintro e1 w1 ⟨rfl, H1⟩; have d5 := H1.out.cell d5; have hyl := Nat.lt_of_lt_of_le hyl H1.out.size; have a10 := H1.out.cell a10; have a11 := H1.out.cell a11; have a12 := H1.out.cell a12; have a13 := H1.out.cell a13; have a14 := H1.out.cell a14; have a15 := H1.out.cell a15; have abl1 := Nat.lt_of_lt_of_le abl1 H1.out.size; have a20 := H1.out.cell a20; have a21 := H1.out.cell a21; have a22 := H1.out.cell a22; have a23 := H1.out.cell a23; have a24 := H1.out.cell a24; have a25 := H1.out.cell a25; have abl2 := Nat.lt_of_lt_of_le abl2 H1.out.size) | (go_at_call 50; (with_reducible refine (HEV1.out _ (HXY.out.trans H1.out)).mono ?_); rintro e2 w2 ⟨rfl, H2⟩) | fail)
    try go_ret
    rw [HQ.out, HC2.out]
    exact ⟨rfl, Lib.hid ((HXY.out.trans H1.out).trans H2.out)⟩
set_option maxHeartbeats 16000000 in
theorem rmerge_any {W0 w : World} {x : S4} {B K C : Nat} {vt : VT} {t : CE0} {mv tk : Value} {e : CE} {kv : Value} (hst : RS W0 x B K C vt t mv tk w) (hk : KIn W0 e kv) (hok : okE e) (hf : e.form = 10) (hkl : e.kids.length = 2) (hkid : ∀ (i : Nat) (x' : CE) (v' : Value), e.kids[i]? = some x' → KIn W0 x' v' → KidC W0 (fun w => RS W0 x B K C vt t mv tk w) B (kindT vt) t x' (eVal x' v')) :
    Calls Try.prog 79 #[.pointer (some ⟨B, 0, none⟩), eVal e kv] w (RetI (evE (kindT vt) t e) w) := by
  obtain ⟨R, hR⟩ : ∃ R, R = evE (kindT vt) t e := ⟨_, rfl⟩
  rw [← hR]
  obtain ⟨Q, hQ⟩ : ∃ Q, Q = RetI R w := ⟨_, rfl⟩
  rw [← hQ]
  have HQ := Lib.hid hQ
  have HR := Lib.hid hR
  have HST := Lib.hid hst
  obtain ⟨p, c, rfl, hkc, hcm⟩ := hk.slice
  obtain ⟨n, hkn⟩ : ∃ n, e.kids.length = n := ⟨_, rfl⟩
  rw [hkn] at hk hkc ⊢
  try rw [hkn] at hkl
  have hcI : (c : Int) ≤ 9223372036854775807 := by unfold maxLen at hcm; omega
  obtain ⟨sb, hs⟩ : ∃ s, s = e.sub := ⟨_, rfl⟩
  obtain ⟨k, hk2⟩ : ∃ s, s = e.kind := ⟨_, rfl⟩
  obtain ⟨nn, hnn⟩ : ∃ s, s = e.n := ⟨_, rfl⟩
  obtain ⟨nm, hnm⟩ : ∃ s, s = e.name := ⟨_, rfl⟩
  have HEVL := Lib.hid (show eVal e (.slice p n c) = .agg #[.int .i64 10, .int .i64 sb, .int .i64 k, .int .i64 nn, .string nm, .slice p n c] by rw [hs, hk2, hnn, hnm, ← hf]; rfl)
  rw [HEVL.out]
  have HL := Lib.hid (And.intro hf (And.intro hs (And.intro hk2 (And.intro hnn hnm))))
  have hkw : KIn W0 e (.slice p n c) := hk
  subst hkl
  obtain ⟨x0, hx0⟩ : ∃ x, e.kids[0]? = some x := ⟨_, List.getElem?_eq_getElem (by rw [hkn]; omega)⟩
  obtain ⟨-, -, -, b0, o0, kv0, hp0, hkx0, a00, a01, a02, a03, a04, a05, abl0⟩ := hkw.at hx0
  obtain ⟨q0, dd0, rfl, -, -⟩ := hkx0.slice
  subst hp0
  rw [Nat.zero_mul, Nat.add_zero] at a00 a01 a02 a03 a04 a05
  obtain ⟨m0, hm0⟩ : ∃ m, m = x0.kids.length := ⟨_, rfl⟩
  rw [← hm0] at a05
  have HK0 : Hid (KidC W0 (fun w => RS W0 x B K C vt t mv tk w) B (kindT vt) t x0 (.agg #[.int .i64 x0.form, .int .i64 x0.sub, .int .i64 x0.kind, .int .i64 x0.n, .string x0.name, .slice q0 m0 dd0])) := Lib.hid (by
    have h1 := hkid 0 x0 _ hx0 hkx0
    rw [hm0]
    exact h1)
  have HX0 := Lib.hid hx0
  replace a00 := hst.ext.cell a00
  replace a01 := hst.ext.cell a01
  replace a02 := hst.ext.cell a02
  replace a03 := hst.ext.cell a03
  replace a04 := hst.ext.cell a04
  replace a05 := hst.ext.cell a05
  replace abl0 := Nat.lt_of_lt_of_le abl0 hst.ext.size
  obtain ⟨ev0, hev0⟩ : ∃ z, z = evE (kindT vt) t x0 := ⟨_, rfl⟩
  obtain ⟨kd0, hkd0⟩ : ∃ z, z = kindE (kindT vt) x0 := ⟨_, rfl⟩
  have HEV0 : Hid (∀ w1, Ext w w1 → Calls Try.prog 50 #[.pointer (some ⟨B, 0, none⟩), .agg #[.int .i64 x0.form, .int .i64 x0.sub, .int .i64 x0.kind, .int .i64 x0.n, .string x0.name, .slice q0 m0 dd0]] w1 (RetI ev0 w1)) := Lib.hid (fun w1 h1 => by rw [hev0]; exact HK0.out.ev w1 (hst.next h1))
  have HKD0 : Hid (∀ w1, Ext w w1 → Calls Try.prog 59 #[.agg #[.int .i64 x0.form, .int .i64 x0.sub, .int .i64 x0.kind, .int .i64 x0.n, .string x0.name, .slice q0 m0 dd0], .func (.func 82) #[.pointer (some ⟨B, 0, none⟩)] #[]] w1 (RetI kd0 w1)) := Lib.hid (fun w1 h1 => by rw [hkd0]; exact HK0.out.kd w1 (hst.next h1))
  have HII0 : Hid (I64 ev0) := Lib.hid (by rw [hev0]; exact HK0.out.i64)
  have HEQ0 := Lib.hid (And.intro hev0 hkd0)
  clear hx0 hkx0 hm0 hev0 hkd0
  obtain ⟨x1, hx1⟩ : ∃ x, e.kids[1]? = some x := ⟨_, List.getElem?_eq_getElem (by rw [hkn]; omega)⟩
  obtain ⟨-, -, -, b1, o1, kv1, hp1, hkx1, a10, a11, a12, a13, a14, a15, abl1⟩ := hkw.at hx1
  obtain ⟨q1, dd1, rfl, -, -⟩ := hkx1.slice
  simp only [Option.some.injEq, Addr.mk.injEq] at hp1
  obtain ⟨rfl, rfl, -⟩ := hp1
  rw [Nat.one_mul] at a10 a11 a12 a13 a14 a15
  obtain ⟨m1, hm1⟩ : ∃ m, m = x1.kids.length := ⟨_, rfl⟩
  rw [← hm1] at a15
  have HK1 : Hid (KidC W0 (fun w => RS W0 x B K C vt t mv tk w) B (kindT vt) t x1 (.agg #[.int .i64 x1.form, .int .i64 x1.sub, .int .i64 x1.kind, .int .i64 x1.n, .string x1.name, .slice q1 m1 dd1])) := Lib.hid (by
    have h1 := hkid 1 x1 _ hx1 hkx1
    rw [hm1]
    exact h1)
  have HX1 := Lib.hid hx1
  replace a10 := hst.ext.cell a10
  replace a11 := hst.ext.cell a11
  replace a12 := hst.ext.cell a12
  replace a13 := hst.ext.cell a13
  replace a14 := hst.ext.cell a14
  replace a15 := hst.ext.cell a15
  replace abl1 := Nat.lt_of_lt_of_le abl1 hst.ext.size
  obtain ⟨ev1, hev1⟩ : ∃ z, z = evE (kindT vt) t x1 := ⟨_, rfl⟩
  obtain ⟨kd1, hkd1⟩ : ∃ z, z = kindE (kindT vt) x1 := ⟨_, rfl⟩
  have HEV1 : Hid (∀ w1, Ext w w1 → Calls Try.prog 50 #[.pointer (some ⟨B, 0, none⟩), .agg #[.int .i64 x1.form, .int .i64 x1.sub, .int .i64 x1.kind, .int .i64 x1.n, .string x1.name, .slice q1 m1 dd1]] w1 (RetI ev1 w1)) := Lib.hid (fun w1 h1 => by rw [hev1]; exact HK1.out.ev w1 (hst.next h1))
  have HKD1 : Hid (∀ w1, Ext w w1 → Calls Try.prog 59 #[.agg #[.int .i64 x1.form, .int .i64 x1.sub, .int .i64 x1.kind, .int .i64 x1.n, .string x1.name, .slice q1 m1 dd1], .func (.func 82) #[.pointer (some ⟨B, 0, none⟩)] #[]] w1 (RetI kd1 w1)) := Lib.hid (fun w1 h1 => by rw [hkd1]; exact HK1.out.kd w1 (hst.next h1))
  have HII1 : Hid (I64 ev1) := Lib.hid (by rw [hev1]; exact HK1.out.i64)
  have HEQ1 := Lib.hid (And.intro hev1 hkd1)
  clear hx1 hkx1 hm1 hev1 hkd1
  have hnms : nm.size ≤ maxLen := by rw [hnm]; exact hok.name
  have hlk0 := fun n' : Nat => (hst.next (((Ext.refl w).alloc (.cells #[.int .i64 10, .int .i64 sb, .int .i64 k, .int .i64 nn, .string nm, .slice (some ⟨b0, o0, none⟩) 2 c] 33)).drewN n')).look (n := nm) hnms
  obtain ⟨gv, hgv⟩ : ∃ z, z = getV t nm := ⟨_, rfl⟩
  rw [← hgv] at hlk0
  have HGV := Lib.hid hgv
  have g5 := hst.box.cells 5 _ rfl
  clear hgv hnms
  have HC : Hid (R = if gv ≠ 0 then ev0 else ev1) := Lib.hid (by rw [HR.out, evE_10 _ _ e HL.out.1 HX0.out HX1.out, ← HL.out.2.2.2.2, ← HGV.out, ← HEQ0.out.1, ← HEQ1.out.1])
  have gl := hst.box.lt
  have hby : BoxV w.heap.size [.int .i64 10, .int .i64 sb, .int .i64 k, .int .i64 nn, .string nm, .slice (some ⟨b0, o0, none⟩) 2 c] (w.alloc (.cells #[.int .i64 10, .int .i64 sb, .int .i64 k, .int .i64 nn, .string nm, .slice (some ⟨b0, o0, none⟩) 2 c] 33)) := BoxV.of_row (heap_alloc_last w _)
  have hxy : Ext w (w.alloc (.cells #[.int .i64 10, .int .i64 sb, .int .i64 k, .int .i64 nn, .string nm, .slice (some ⟨b0, o0, none⟩) 2 c] 33)) := (Ext.refl w).alloc _
  have HXY := Lib.hid hxy
  clear hQ hR hk hok hf hs hk2 hnn hnm hcm hkid hkw hst hkn
  go_enter Try.func79, Try.ntmps79
  go_upto_region 1 with fail
  replace g5 := hxy.cell g5
  replace gl := Nat.lt_of_lt_of_le gl hxy.size
  replace a00 := hxy.cell a00
  replace a01 := hxy.cell a01
  replace a02 := hxy.cell a02
  replace a03 := hxy.cell a03
  replace a04 := hxy.cell a04
  replace a05 := hxy.cell a05
  replace abl0 := Nat.lt_of_lt_of_le abl0 hxy.size
  replace a10 := hxy.cell a10
  replace a11 := hxy.cell a11
  replace a12 := hxy.cell a12
  replace a13 := hxy.cell a13
  replace a14 := hxy.cell a14
  replace a15 := hxy.cell a15
  replace abl1 := Nat.lt_of_lt_of_le abl1 hxy.size
  generalize (w.alloc (.cells #[.int .i64 10, .int .i64 sb, .int .i64 k, .int .i64 nn, .string nm, .slice (some ⟨b0, o0, none⟩) 2 c] 33)) = wy at hby hxy HXY g5 gl hlk0 a00 a01 a02 a03 a04 a05 abl0 a10 a11 a12 a13 a14 a15 abl1 ⊢
  generalize w.heap.size = Y at hby ⊢
  have d0 := hby.cells 0 _ rfl
  have d1 := hby.cells 1 _ rfl
  have d2 := hby.cells 2 _ rfl
  have d3 := hby.cells 3 _ rfl
  have d4 := hby.cells 4 _ rfl
  have d5 := hby.cells 5 _ rfl
  have hyl := hby.lt
  have HBY := Lib.hid hby
  clear hby hxy
  (refine region_drew (by kernel_rfl) (by kernel_rfl) ?_; (repeat (go_big_quiet_step (fail))); refine wpQuiet_nil ?_; rintro _ ⟨nq, rfl⟩)
  have hxv : Ext wy (wy.drewN nq) := (Ext.refl wy).drewN nq
  replace a00 := hxv.cell a00
  replace a01 := hxv.cell a01
  replace a02 := hxv.cell a02
  replace a03 := hxv.cell a03
  replace a04 := hxv.cell a04
  replace a05 := hxv.cell a05
  replace abl0 := Nat.lt_of_lt_of_le abl0 hxv.size
  replace a10 := hxv.cell a10
  replace a11 := hxv.cell a11
  replace a12 := hxv.cell a12
  replace a13 := hxv.cell a13
  replace a14 := hxv.cell a14
  replace a15 := hxv.cell a15
  replace abl1 := Nat.lt_of_lt_of_le abl1 hxv.size
  replace d5 := hxv.cell d5
  replace hyl := Nat.lt_of_lt_of_le hyl hxv.size
  have HXV := Lib.hid (HXY.out.trans hxv)
  clear hlk0 g5 gl d0 d1 d2 d3 d4
  generalize wy.drewN nq = wv at *
  by_cases hz : gv = 0
  · have HC2 : Hid (R = ev1) := Lib.hid (by rw [HC.out]; simp [hz])
    have hq : (gv != 0) = false := by simpa using hz
    clear hz
    go_wp2_with (first | (go_at_call 50; (with_reducible refine (HEV1.out _ HXV.out).mono ?_); rintro e2 w2 ⟨rfl, H2⟩) | fail)
    try go_ret
    rw [HQ.out, HC2.out]
    exact ⟨rfl, Lib.hid (HXV.out.trans H2.out)⟩
  · have HC2 : Hid (R = ev0) := Lib.hid (by rw [HC.out]; simp [hz])
    have hq : (gv != 0) = true := by simpa using hz
    clear hz
    go_wp2_with (first | (go_at_call 50; (with_reducible refine (HEV0.out _ HXV.out).mono ?_); rintro e2 w2 ⟨rfl, H2⟩) | fail)
    try go_ret
    rw [HQ.out, HC2.out]
    exact ⟨rfl, Lib.hid (HXV.out.trans H2.out)⟩
end Go.Proofs.Ytmommjagndadjaa
namespace Go.Proofs.Ytmommjagndadjaa
open Go.RowKit Go.Maps
set_option linter.unusedSimpArgs false
set_option linter.unusedVariables false
set_option maxRecDepth 100000

def formCells : Array Value := #[.nilFunc, .func (.func 72) #[] #[], .func (.func 73) #[] #[], .func (.func 74) #[] #[], .func (.func 75) #[] #[], .func (.func 76) #[] #[], .nilFunc, .nilFunc, .nilFunc, .func (.func 78) #[] #[], .func (.func 79) #[] #[], .func (.func 77) #[] #[]]
theorem formCells_one : formCells.all (·.oneCell') = true := by kernel_rfl
set_option maxHeartbeats 2000000 in
theorem rforms_any (w : World) : Calls Try.prog 67 #[] w fun e w' => e = .returned (.agg formCells) ∧ Ext w w' := by
  go_enter Try.func67, Try.ntmps67
  go_upto_region 1 with fail
  go_wp2_with (refine wpList_store_last rfl 123 (.tmp 0) (.tmp 1) rfl _ formCells _ _ rfl rfl rfl (by kernel_rfl) (by kernel_rfl) (by kernel_rfl) ?_)
  exact bodyPost_ret (v := .agg formCells) (results_cell_row rfl _ _ _ _ _ _ _ rfl (heap_alloc_last _ _) Try.underlying123 rfl (by kernel_rfl)) rfl ⟨rfl, (Ext.refl _).alloc _⟩
set_option maxHeartbeats 8000000 in
theorem rexp_step {w : World} {B : Nat} {e : CE} {kv : Value} {W0 : World} {R : Int} {g : FuncId} (hk : KIn W0 e kv) (hix : ∀ w1, (Instr.index 123 (.agg formCells) (.int .i64 e.form)).run Try.prog w1 = .ok (.func (.func g) #[] #[]) w1) (hcf : ∀ args w1, (callFunc g args).run Try.prog w1 = .ok (.enter g args) w1)
    (hfn : ∀ w1, Ext w w1 → Calls Try.prog g #[.pointer (some ⟨B, 0, none⟩), eVal e kv] w1 (RetI R w1)) :
    Calls Try.prog 50 #[.pointer (some ⟨B, 0, none⟩), eVal e kv] w (RetI R w) := by
  obtain ⟨Q, hQ⟩ : ∃ Q, Q = RetI R w := ⟨_, rfl⟩
  rw [← hQ]
  have HQ := Lib.hid hQ
  obtain ⟨p, c, rfl, -, -⟩ := hk.slice
  obtain ⟨n, hn⟩ : ∃ n, n = e.kids.length := ⟨_, rfl⟩
  rw [← hn] at hfn ⊢
  obtain ⟨f, hf⟩ : ∃ f, f = e.form := ⟨_, rfl⟩
  obtain ⟨sb, hs⟩ : ∃ s, s = e.sub := ⟨_, rfl⟩
  obtain ⟨k, hk2⟩ : ∃ s, s = e.kind := ⟨_, rfl⟩
  obtain ⟨nn, hnn⟩ : ∃ s, s = e.n := ⟨_, rfl⟩
  obtain ⟨nm, hnm⟩ : ∃ s, s = e.name := ⟨_, rfl⟩
  have hev : eVal e (.slice p n c) = .agg #[.int .i64 f, .int .i64 sb, .int .i64 k, .int .i64 nn, .string nm, .slice p n c] := by rw [hf, hs, hk2, hnn, hnm]; rfl
  rw [hev] at hfn ⊢
  rw [← hf] at hix
  have HFN := Lib.hid hfn
  have hby : BoxV w.heap.size [.int .i64 f, .int .i64 sb, .int .i64 k, .int .i64 nn, .string nm, .slice p n c] (w.alloc (.cells #[.int .i64 f, .int .i64 sb, .int .i64 k, .int .i64 nn, .string nm, .slice p n c] 33)) := BoxV.of_row (heap_alloc_last w _)
  have hxy : Ext w (w.alloc (.cells #[.int .i64 f, .int .i64 sb, .int .i64 k, .int .i64 nn, .string nm, .slice p n c] 33)) := (Ext.refl w).alloc _
  have HXY := Lib.hid hxy
  clear hQ hk hn hf hs hk2 hnn hnm hev hfn
  go_enter Try.func50, Try.ntmps50
  go_upto_region 1 with fail
  generalize (w.alloc (.cells #[.int .i64 f, .int .i64 sb, .int .i64 k, .int .i64 nn, .string nm, .slice p n c] 33)) = wy at hby hxy HXY ⊢
  generalize w.heap.size = Y at hby ⊢
  have d0 := hby.cells 0 _ rfl
  have d1 := hby.cells 1 _ rfl
  have d2 := hby.cells 2 _ rfl
  have d3 := hby.cells 3 _ rfl
  have d4 := hby.cells 4 _ rfl
  have d5 := hby.cells 5 _ rfl
  have hyl := hby.lt
  clear hby hxy
  ((first | (with_reducible refine region_ext2 (by kernel_rfl) (by kernel_rfl) ?_) | refine region_ext (by kernel_rfl) (by kernel_rfl) ?_); (repeat (go_big_quiet_step (first | (exact in_ext (rforms_any _)) | (with_reducible exact in_ri (HFN.out _ (HXY.out.trans (Ext.by _ _))))))); refine wpQuiet_nil ?_; rintro _ ⟨t1, rfl⟩)
  go_wp2
  try go_ret
  rw [HQ.out]
  exact ⟨rfl, Lib.hid (HXY.out.trans (Ext.by _ _))⟩
theorem evE_64 (of : ByteArray → Int) (t : CE0) (ht : ∀ n, I64 (getV t n)) (e : CE) : okE e → I64 (evE of t e) := by
  induction e using CE.ind with
  | h f s k n nm ks ih =>
    intro hok
    have hk : ∀ i, I64 ((evL of t ks).getD i 0) := fun i => by
      rw [List.getD, evL_get]
      cases hx : ks[i]? with
      | none => exact zero_64
      | some x => exact ih x (List.mem_of_getElem? hx) (okK.at hok.2.2.2.2.2 hx)
    rw [evE]
    split
    · exact hok.2.2.2.1
    split
    · exact ht nm
    split
    · exact unv_64 _ _ _
    split
    · exact binv_64 _ (hk 0) (hk 1)
    split
    · split
      · exact hk 1
      · exact hk 2
    split
    · exact castv_64 (hk 0)
    split
    · exact hk 0
    · split
      · exact hk 0
      · exact hk 1
/-- An expression is evaluated. -/
theorem rexp_at {W0 : World} {x : S4} {B K C : Nat} {vt : VT} {t : CE0} {mv tk : Value} (ht : ∀ n, I64 (getV t n)) :
    ∀ (N : Nat) (e : CE), SizeOf.sizeOf e < N → ∀ (kv : Value) (w : World), RS W0 x B K C vt t mv tk w → KIn W0 e kv → okE e → frx e →
    Calls Try.prog 50 #[.pointer (some ⟨B, 0, none⟩), eVal e kv] w (RetI (evE (kindT vt) t e) w) := by
  intro N
  induction N with
  | zero => intro e h; omega
  | succ N ih =>
    intro e hN kv w hst hk hok hfr
    have hkid : ∀ (w1 : World) (i : Nat) (x' : CE) (v' : Value), e.kids[i]? = some x' → KIn W0 x' v' → KidC W0 (fun w => RS W0 x B K C vt t mv tk w) B (kindT vt) t x' (eVal x' v') := fun w1 i x' v' hx hk' =>
      ⟨fun w2 h2 => ih x' (by have h3 := CE.size_kids e; have h4 := size_at hx; omega) v' w2 h2 hk' (okK.at hok.kids hx) (hfr.at hx),
        fun w2 h2 => kind_at W0 _ _ _ _ (clo_rkind W0 x B K C vt t mv tk) (SizeOf.sizeOf x' + 1) x' (Nat.lt_succ_self _) v' w2 h2.ext h2 hk' (okK.at hok.kids hx) (hfr.at hx).frm,
        evE_64 _ t ht x' (okK.at hok.kids hx)⟩
    rcases hfr.forms with h | h | h | h | h | h | h | h
    · refine rexp_step hk (g := 72) (fun w1 => by rw [h]; kernel_rfl) (fun args w1 => by kernel_rfl) (fun w1 h1 => rlit_any (hst.next h1) hk hok h trivial (hkid w1))
    · refine rexp_step hk (g := 73) (fun w1 => by rw [h]; kernel_rfl) (fun args w1 => by kernel_rfl) (fun w1 h1 => rname_any (hst.next h1) hk hok h trivial (hkid w1))
    · refine rexp_step hk (g := 74) (fun w1 => by rw [h.1]; kernel_rfl) (fun args w1 => by kernel_rfl) (fun w1 h1 => run_any (hst.next h1) hk hok h.1 h.2 (hkid w1))
    · refine rexp_step hk (g := 75) (fun w1 => by rw [h.1]; kernel_rfl) (fun args w1 => by kernel_rfl) (fun w1 h1 => rbin_any (hst.next h1) hk hok h.1 h.2 (hkid w1))
    · refine rexp_step hk (g := 76) (fun w1 => by rw [h.1]; kernel_rfl) (fun args w1 => by kernel_rfl) (fun w1 h1 => rchoice_any (hst.next h1) hk hok h.1 h.2 (hkid w1))
    · refine rexp_step hk (g := 77) (fun w1 => by rw [h.1]; kernel_rfl) (fun args w1 => by kernel_rfl) (fun w1 h1 => rcast_any (hst.next h1) hk hok h.1 h.2 (hkid w1))
    · refine rexp_step hk (g := 78) (fun w1 => by rw [h.1]; kernel_rfl) (fun args w1 => by kernel_rfl) (fun w1 h1 => rwhen_any (hst.next h1) hk hok h.1 h.2 (hkid w1))
    · refine rexp_step hk (g := 79) (fun w1 => by rw [h.1]; kernel_rfl) (fun args w1 => by kernel_rfl) (fun w1 h1 => rmerge_any (hst.next h1) hk hok h.1 h.2 (hkid w1))
end Go.Proofs.Ytmommjagndadjaa
namespace Go.Proofs.Ytmommjagndadjaa
open Go.RowKit Go.Maps
set_option linter.unusedSimpArgs false
set_option linter.unusedVariables false
set_option maxRecDepth 100000

theorem holdsR_at (t : CE0) {l : CK0} {k : Nat} {g : ByteArray × Bool} (h : l[k]? = some g) : holdsR t (l.drop k) = (hasR t g.1 && decide ((getV t g.1 ≠ 0) ↔ g.2 = true) && holdsR t (l.drop (k + 1))) := by
  rw [drop_at h, holdsR]
set_option maxHeartbeats 16000000 in
theorem rholds_any {W0 w : World} {x : S4} {B K C : Nat} {vt : VT} {t : CE0} {mv tk : Value} {l : CK0} {v : Value} (hst : RS W0 x B K C vt t mv tk w) (hv : EdIn W0 v l) (hok : ∀ e ∈ l, e.1.size ≤ maxLen) :
    Calls Try.prog 49 #[.pointer (some ⟨B, 0, none⟩), v] w (RetX (holdsR t l) w) := by
  obtain ⟨R, hR⟩ : ∃ R, R = holdsR t l := ⟨_, rfl⟩
  rw [← hR]
  obtain ⟨Q, hQ⟩ : ∃ Q, Q = RetX R w := ⟨_, rfl⟩
  rw [← hQ]
  have HQ := Lib.hid hQ
  have HR := Lib.hid hR
  have HST := Lib.hid hst
  have HOK := Lib.hid hok
  obtain ⟨p, c, rfl, hc, hcm⟩ := hv.slice
  obtain ⟨n, hn⟩ : ∃ n, n = l.length := ⟨_, rfl⟩
  rw [← hn] at hv hc ⊢
  have HN := Lib.hid hn
  have HV := Lib.hid hv
  have hcI : (c : Int) ≤ 9223372036854775807 := by unfold maxLen at hcm; omega
  clear hQ hR hst hok hn hv hcm
  go_enter Try.func49, Try.ntmps49
  go_upto_region 2 with fail
  go_loopw [10] (fun i wr => ∃ k : Nat, k ≤ n ∧ i = .int .i64 (k : Int) ∧ Hid (Ext w wr) ∧ Hid (R = holdsR t (l.drop k))) (fun i _ => n - (intOf i).toNat)
  case atStart => exact ⟨0, Nat.zero_le _, rfl, Lib.hid (Ext.refl _), HR⟩
  case round =>
    obtain ⟨k, hk, rfl, HS, HJ⟩ := hrel
    by_cases hlt : k < n
    · have hki : (k : Int) < (n : Int) := Int.ofNat_lt.2 hlt
      obtain ⟨g_, hg_⟩ : ∃ g, l[k]? = some g := ⟨_, List.getElem?_eq_getElem (by rw [← HN.out]; exact hlt)⟩
      obtain ⟨be_, oe_, hpe, e0_, e1_, hel⟩ := (HV.out.ext (HST.out.ext.trans HS.out)).at hg_
      subst hpe
      have hkc : k < c := by omega
      have HGG := Lib.hid hg_
      clear hg_
      have hxy : Ext wr (wr.alloc (.cells #[.string g_.1, .bool g_.2] 51)) := (Ext.refl wr).alloc _
      have hby : BoxV wr.heap.size [.string g_.1, .bool g_.2] (wr.alloc (.cells #[.string g_.1, .bool g_.2] 51)) := BoxV.of_row (heap_alloc_last wr _)
      have HXY := Lib.hid hxy
      go_upto_region 4 with fail
      generalize (wr.alloc (.cells #[.string g_.1, .bool g_.2] 51)) = wy at hby hxy HXY ⊢
      generalize wr.heap.size = Y2 at hby ⊢
      have d0e := hby.cells 0 _ rfl
      have d1e := hby.cells 1 _ rfl
      have hyle := hby.lt
      clear hby hxy e0_ e1_ hel
      have hst2 := HST.out.next (HS.out.trans HXY.out)
      have hns := HOK.out g_ (List.mem_of_getElem? HGG.out)
      have lk1 := (hst2.next ((Ext.refl wy).drew)).look hns
      have lk2 := (hst2.next (((Ext.refl wy).alloc (.cells #[.int .i64 0, .bool false] 100)).drew)).look hns
      have HHD := Lib.hid (holdsR_at t HGG.out)
      obtain ⟨gv, hgv⟩ : ∃ z, z = getV t g_.1 := ⟨_, rfl⟩
      obtain ⟨th, hth⟩ : ∃ z, z = hasR t g_.1 := ⟨_, rfl⟩
      rw [← hgv, ← hth] at lk1 lk2 HHD
      obtain ⟨on, hon⟩ : ∃ z, z = g_.2 := ⟨_, rfl⟩
      rw [← hon] at d1e HHD
      have g5 := hst2.box.cells 5 _ rfl
      have gl := hst2.box.lt
      have HQQ : Hid (∀ w', Ext wy w' → w'.cell? ⟨B, 5, none⟩ = some (.map (some C)) ∧ w'.cell? ⟨Y2, 0, none⟩ = some (.string g_.1)) := Lib.hid (fun w' hx => ⟨hx.cell g5, hx.cell d0e⟩)
      clear hst2 hns hgv hth hon
      go_region_held3 (fun w' => w'.cell? ⟨B, 5, none⟩ = some (.map (some C)) ∧ w'.cell? ⟨Y2, 0, none⟩ = some (.string g_.1))
        (exact HQQ.out _ (by repeat first | exact Ext.refl _ | assumption | refine Ext.drew ?_ | refine Ext.drewN ?_ _ | refine Ext.extBy ?_ _ | refine Ext.alloc ?_ _ | refine Ext.setCell ?_ (by simp; try omega) _ | (refine Ext.trans ?_ (by assumption))))
        (fail)
      all_goals
        have hx9 : Ext wy (wy.alloc (.cells #[.int .i64 gv, .bool th] 100)).drew := ((Ext.refl wy).alloc _).drew
        have hz9 : BoxV wy.heap.size [.int .i64 gv, .bool th] (wy.alloc (.cells #[.int .i64 gv, .bool th] 100)).drew := (BoxV.of_row (heap_alloc_last wy _)).drew
        generalize (wy.alloc (.cells #[.int .i64 gv, .bool th] 100)).drew = w9 at hx9 hz9 ⊢
        generalize wy.heap.size = Z at hz9 ⊢
        have z0 := hz9.cells 0 _ rfl
        have z1 := hz9.cells 1 _ rfl
        have zl := hz9.lt
        have y1 := hx9.cell d1e
        have yl := Nat.lt_of_lt_of_le hyle hx9.size
        have HX9 := Lib.hid (HXY.out.trans hx9)
        clear hz9 hx9 d0e d1e hyle lk1 lk2 g5 gl
        cases th with
        | false =>
          have HC : Hid (R = false) := Lib.hid (by rw [HJ.out, HHD.out]; simp)
          go_wp2
          try go_ret
          rw [HQ.out, HC.out]
          exact ⟨rfl, Lib.hid (HS.out.trans HX9.out)⟩
        | true =>
          by_cases hz : gv = 0
          · have hq : (gv != 0) = false := by simpa using hz
            cases on with
            | false =>
              have HC : Hid (R = holdsR t (l.drop (k + 1))) := Lib.hid (by rw [HJ.out, HHD.out, hz]; simp)
              clear hz
              go_wp2
              exact ⟨⟨k + 1, by omega, by go_num, Lib.hid (HS.out.trans HX9.out), HC⟩, by simp [intOf]; omega⟩
            | true =>
              have HC : Hid (R = false) := Lib.hid (by rw [HJ.out, HHD.out, hz]; simp)
              clear hz
              go_wp2
              try go_ret
              rw [HQ.out, HC.out]
              exact ⟨rfl, Lib.hid (HS.out.trans HX9.out)⟩
          · have hq : (gv != 0) = true := by simpa using hz
            cases on with
            | false =>
              have HC : Hid (R = false) := Lib.hid (by rw [HJ.out, HHD.out]; simp [hz])
              clear hz
              go_wp2
              try go_ret
              rw [HQ.out, HC.out]
              exact ⟨rfl, Lib.hid (HS.out.trans HX9.out)⟩
            | true =>
              have HC : Hid (R = holdsR t (l.drop (k + 1))) := Lib.hid (by rw [HJ.out, HHD.out]; simp [hz])
              clear hz
              go_wp2
              exact ⟨⟨k + 1, by omega, by go_num, Lib.hid (HS.out.trans HX9.out), HC⟩, by simp [intOf]; omega⟩
    · have hki : ¬ (k : Int) < (n : Int) := fun e => hlt (Int.ofNat_lt.1 e)
      obtain rfl : k = n := by omega
      have HC : Hid (R = true) := Lib.hid (by rw [HJ.out, HN.out, List.drop_length, holdsR])
      go_wp2
      try go_ret
      rw [HQ.out, HC.out]
      exact ⟨rfl, HS⟩
end Go.Proofs.Ytmommjagndadjaa
namespace Go.Proofs.Ytmommjagndadjaa
open Go.RowKit Go.Maps
set_option linter.unusedSimpArgs false
set_option linter.unusedVariables false
set_option maxRecDepth 100000

/-! ### Memories -/
def mmCells : MS → List Value
  | [] => []
  | m :: l => [.int .i64 (m.getD 0), .bool m.isSome] ++ mmCells l
theorem mmCells_len : ∀ l : MS, (mmCells l).length = l.length * 2
  | [] => rfl
  | e :: l => by rw [mmCells, List.length_append, mmCells_len l]; simp; omega
theorem mmCells_at : ∀ {l : MS} {i : Nat} {m : Option Int}, l[i]? = some m → (mmCells l)[i * 2]? = some (.int .i64 (m.getD 0)) ∧ (mmCells l)[i * 2 + 1]? = some (.bool m.isSome)
  | [], _, _, h => by simp at h
  | y :: l, 0, m, h => by
    simp at h
    subst h
    simp [mmCells]
  | y :: l, i + 1, m, h => by
    obtain ⟨h1, h2⟩ := mmCells_at (l := l) (i := i) (m := m) (by simpa using h)
    rw [mmCells]
    constructor
    · rw [List.getElem?_append_right (by simp; omega), show (i + 1) * 2 - List.length [Value.int .i64 (y.getD 0), Value.bool y.isSome] = i * 2 by simp; omega]
      exact h1
    · rw [List.getElem?_append_right (by simp; omega), show (i + 1) * 2 + 1 - List.length [Value.int .i64 (y.getD 0), Value.bool y.isSome] = i * 2 + 1 by simp; omega]
      exact h2
theorem mmCells_set : ∀ (l : MS) (i : Nat) (m : Option Int), i < l.length → ((mmCells l).set (i * 2) (.int .i64 (m.getD 0))).set (i * 2 + 1) (.bool m.isSome) = mmCells (l.set i m)
  | [], _, _, h => by simp at h
  | y :: l, 0, m, _ => by simp [mmCells]
  | y :: l, i + 1, m, h => by
    have ih := mmCells_set l i m (by simpa using h)
    rw [List.set_cons_succ, mmCells, mmCells, ← ih]
    have e1 : (i + 1) * 2 = i * 2 + 2 := by omega
    rw [e1]
    rfl
/-! ### Plain -/
def kmQ (t : CE0) (q : EQ) (m : Option Int) : Option Int := if q.form = 2 ∧ hasR t q.name = true then (if hasR t q.next then some (getV t q.next) else none) else m
theorem keepQ_get (t : CE0) : ∀ (l : List EQ) (ms : MS) (i : Nat) (q : EQ) (m : Option Int), l[i]? = some q → ms[i]? = some m → (keepQ t l ms)[i]? = some (kmQ t q m)
  | [], _, _, _, _, h, _ => by simp at h
  | x :: l, [], _, _, _, _, h => by simp at h
  | x :: l, y :: ms, 0, q, m, h1, h2 => by
    simp at h1 h2
    subst h1 h2
    rw [keepQ]; rfl
  | x :: l, y :: ms, i + 1, q, m, h1, h2 => by
    rw [keepQ]
    simpa using keepQ_get t l ms i q m (by simpa using h1) (by simpa using h2)
theorem keepQ_len (t : CE0) : ∀ (l : List EQ) (ms : MS), ms.length = l.length → (keepQ t l ms).length = l.length
  | [], [], _ => rfl
  | [], y :: ms, h => by simp at h
  | x :: l, [], h => by simp at h
  | x :: l, y :: ms, h => by rw [keepQ, List.length_cons, keepQ_len t l ms (by simpa using h)]; rfl
theorem insR_at {l : List VR} {r : List Int} {k : Nat} {v : VR} {n : Int} (h1 : l[k]? = some v) (h2 : r[k]? = some n) (t : CE0) : insR (l.drop k) (r.drop k) t = insR (l.drop (k + 1)) (r.drop (k + 1)) ((v.name, n) :: t) := by
  rw [drop_at h1, drop_at h2, insR]
theorem insR_end {l : List VR} {r : List Int} {k : Nat} (h : l.length ≤ k) (t : CE0) : insR (l.drop k) (r.drop k) t = t := by
  rw [List.drop_eq_nil_of_le h]; rfl
theorem getV_cons (a n : ByteArray) (v : Int) (t : CE0) : getV ((a, v) :: t) n = if a = n then v else getV t n := by
  unfold getV
  by_cases h : a = n
  · simp [h]
  · rw [List.find?_cons_of_neg (by simpa using h), if_neg h]
theorem getV_64 {t : CE0} (h : ∀ n, I64 (getV t n)) (a : ByteArray) {v : Int} (hv : I64 v) : ∀ n, I64 (getV ((a, v) :: t) n) := fun n => by
  rw [getV_cons]; split
  · exact hv
  · exact h n
theorem stepQ_at (c : CP) (of : ByteArray → Int) (cl : VT) (ms : MS) (tick : Int) {l : List Int} {j : Nat} {i : Nat} (h : l[j]? = some (i : Int)) {q : EQ} (hq : c.eqs[i]? = some q) (t : CE0) :
    stepQ c of cl ms tick (l.drop j) t = stepQ c of cl ms tick (l.drop (j + 1)) (if holdsR t (clkT cl q.name) then (q.name, defQ of ms tick t i q) :: t else t) := by
  rw [drop_at h, stepQ, Int.toNat_natCast, hq]
theorem defQ_1 (of : ByteArray → Int) (ms : MS) (tick : Int) (t : CE0) (i : Nat) (q : EQ) (h : q.form = 1) : defQ of ms tick t i q = evE of t q.e := by unfold defQ; rw [if_pos h]
theorem defQ_2 (of : ByteArray → Int) (ms : MS) (tick : Int) (t : CE0) (i : Nat) (q : EQ) (h : q.form = 2) {m : Option Int} (hm : ms[i]? = some m) : defQ of ms tick t i q = if m.isSome ∧ (q.reset = eB ∨ getV t q.reset = 0) then m.getD 0 else q.init := by
  unfold defQ
  rw [if_neg (by omega), if_pos h]
  have e : ms.getD i none = m := by rw [List.getD, hm]; rfl
  rw [e]
  cases m with
  | none => simp
  | some n => simp
theorem defQ_3 (of : ByteArray → Int) (ms : MS) (tick : Int) (t : CE0) (i : Nat) (q : EQ) (h : q.form = 3) : defQ of ms tick t i q = if tick.tmod q.period = q.offset then 1 else 0 := by unfold defQ; rw [if_neg (by omega), if_neg (by omega), if_pos h]
theorem defQ_4 (of : ByteArray → Int) (ms : MS) (tick : Int) (t : CE0) (i : Nat) (q : EQ) (h1 : q.form ≠ 1) (h2 : q.form ≠ 2) (h3 : q.form ≠ 3) : defQ of ms tick t i q = 0 := by unfold defQ; rw [if_neg h1, if_neg h2, if_neg h3]
/-! ### A run between ticks -/
structure TS (W0 : World) (x : S4) (B K C MB n : Nat) (vt : VT) (t : CE0) (ms : MS) (tick : Int) (w : World) : Prop where
  rs : RS W0 x B K C vt t (.slice (some ⟨MB, 0, none⟩) n n) (.int .i64 tick) w
  mem : w.heap[MB]? = some (.cells (mmCells ms).toArray 100 (0, 0))
  len : ms.length = n
  bk : B ≠ K
  bc : B ≠ C
  bm : B ≠ MB
  kc : K ≠ C
  km : K ≠ MB
  cm : C ≠ MB
  lb : W0.heap.size ≤ B
  lk : W0.heap.size ≤ K
  lc : W0.heap.size ≤ C
  lm : W0.heap.size ≤ MB
section
variable {W0 w w' : World} {x : S4} {B K C MB n : Nat} {vt : VT} {t : CE0} {ms : MS} {tick : Int}
theorem TS.next (h : TS W0 x B K C MB n vt t ms tick w) (hx : Ext w w') : TS W0 x B K C MB n vt t ms tick w' := { h with rs := h.rs.next hx, mem := ext_block hx h.mem }
theorem TS.mcell (h : TS W0 x B K C MB n vt t ms tick w) {i : Nat} {m : Option Int} (hm : ms[i]? = some m) : w.cell? ⟨MB, i * 2, none⟩ = some (.int .i64 (m.getD 0)) ∧ w.cell? ⟨MB, i * 2 + 1, none⟩ = some (.bool m.isSome) := by
  obtain ⟨h1, h2⟩ := mmCells_at hm
  rw [cell_of_row w MB _ _ _ (0, 0) h.mem, cell_of_row w MB _ _ _ (0, 0) h.mem]
  exact ⟨by simpa using h1, by simpa using h2⟩
theorem TS.mlt (h : TS W0 x B K C MB n vt t ms tick w) : MB < w.heap.size := (Array.getElem?_eq_some_iff.1 h.mem).1
/-- A value is put. -/
theorem TS.put (h : TS W0 x B K C MB n vt t ms tick w) {nm : ByteArray} (hn : nm.size ≤ maxLen) (hl : t.length ≤ 1000000000) (v : Int) : ∃ w', (Instr.mapUpdate 70 (.map (some C)) (.string nm) (.agg #[.int .i64 v, .bool true])).run Try.prog w = .ok () w' ∧ Kb [C] w w' ∧ TS W0 x B K C MB n vt ((nm, v) :: t) ms tick w' := by
  obtain ⟨w', h1, h2, h3⟩ := h.rs.cm.put Try.underlying9 Try.underlying70 (by unfold ceL maxLen; simp; omega) hn (.agg #[.int .i64 v, .bool true])
  have hk : Kb [C] w w' := Kb.grown h3 (fun g hg => by simp at hg; simp [hg])
  exact ⟨w', h1, hk, { h with rs := ⟨hk.ext h.rs.ext (by have := h.lc; simp; omega), h.rs.box.kb hk (by have := h.bc; simp; omega), h.rs.km.kb hk (by have := h.kc; simp; omega), h2⟩, mem := hk.heap (by have := h.cm; simp; omega) h.mem }⟩
theorem TS.kb {S : List Nat} (h : TS W0 x B K C MB n vt t ms tick w) (hk : Kb S w w') (h0 : ∀ k ∈ S, W0.heap.size ≤ k) (hS : ∀ k ∈ S, k ≠ B ∧ k ≠ K ∧ k ≠ C ∧ k ≠ MB) : TS W0 x B K C MB n vt t ms tick w' :=
  { h with rs := ⟨hk.ext h.rs.ext h0, h.rs.box.kb hk (fun e => (hS _ e).1 rfl), h.rs.km.kb hk (fun e => (hS _ e).2.1 rfl), h.rs.cm.kb hk (fun e => (hS _ e).2.2.1 rfl)⟩, mem := hk.heap (fun e => (hS _ e).2.2.2 rfl) h.mem }
/-- A memory is kept. -/
theorem TS.setM (h : TS W0 x B K C MB n vt t ms tick w) {i : Nat} (hi : i < n) (m : Option Int) : TS W0 x B K C MB n vt t (ms.set i m) tick ((w.setCell ⟨MB, i * 2, none⟩ (.int .i64 (m.getD 0))).setCell ⟨MB, i * 2 + 1, none⟩ (.bool m.isSome)) ∧ Kb [MB] w ((w.setCell ⟨MB, i * 2, none⟩ (.int .i64 (m.getD 0))).setCell ⟨MB, i * 2 + 1, none⟩ (.bool m.isSome)) := by
  have hk : Kb [MB] w ((w.setCell ⟨MB, i * 2, none⟩ (.int .i64 (m.getD 0))).setCell ⟨MB, i * 2 + 1, none⟩ (.bool m.isSome)) := (Kb.set _ _ _ (by simp) _).trans (Kb.set _ _ _ (by simp) _)
  refine ⟨{ h with rs := ⟨hk.ext h.rs.ext (by have := h.lm; simp; omega), h.rs.box.kb hk (by have := h.bm; simp; omega), h.rs.km.kb hk (by have := h.km; simp; omega), h.rs.cm.kb hk (by have := h.cm; simp; omega)⟩, mem := ?_, len := by simp [h.len] }, hk⟩
  have h1 := heap_setCell_same w MB (i * 2) _ _ (.int .i64 (m.getD 0)) h.mem
  have h2 := heap_setCell_same _ MB (i * 2 + 1) _ _ (.bool m.isSome) h1
  rw [← mmCells_set ms i m (by rw [h.len]; exact hi)]
  simpa using h2
/-- A tick is counted. -/
theorem TS.setT (h : TS W0 x B K C MB n vt t ms tick w) (k : Int) : TS W0 x B K C MB n vt t ms k (w.setCell ⟨B, 7, none⟩ (.int .i64 k)) ∧ Kb [B] w (w.setCell ⟨B, 7, none⟩ (.int .i64 k)) := by
  have hk : Kb [B] w (w.setCell ⟨B, 7, none⟩ (.int .i64 k)) := Kb.set _ _ _ (by simp) _
  exact ⟨{ h with rs := ⟨hk.ext h.rs.ext (by have := h.lb; simp; omega), (h.rs.box.put 7 _).cast rfl, h.rs.km.kb hk (by have := h.bk; simp; omega), h.rs.cm.kb hk (by have := h.bc; simp; omega)⟩, mem := hk.heap (by have := h.bm; simp; omega) h.mem }, hk⟩
theorem getV_no : ∀ {t : CE0} {n : ByteArray}, hasR t n = false → getV t n = 0
  | [], _, _ => rfl
  | e :: t, n, h => by
    unfold hasR at h
    unfold getV
    by_cases he : e.1 = n
    · simp [he] at h
    · rw [List.find?_cons_of_neg (by simpa using he)] at h ⊢
      exact getV_no h
theorem kmQ_yes {t : CE0} {q : EQ} {m : Option Int} (h2 : q.form = 2) (h : hasR t q.name = true) : (kmQ t q m).getD 0 = getV t q.next ∧ (kmQ t q m).isSome = hasR t q.next := by
  unfold kmQ
  rw [if_pos ⟨h2, h⟩]
  cases h3 : hasR t q.next with
  | true => exact ⟨rfl, rfl⟩
  | false => exact ⟨(getV_no h3).symm, rfl⟩
end
end Go.Proofs.Ytmommjagndadjaa
namespace Go.Proofs.Ytmommjagndadjaa
open Go.RowKit Go.Maps
set_option linter.unusedSimpArgs false
set_option linter.unusedVariables false
set_option maxRecDepth 100000

/-- What is asked of a program that runs, beside the check. -/
structure goodC (c : CP) : Prop where
  ok : okC c
  fx : ∀ q ∈ c.eqs, q.form = 1 → frx q.e
  per : ∀ q ∈ c.eqs, q.form = 3 → 1 ≤ q.period ∧ q.period ≤ 64
  l1 : c.ins.length ≤ 2000
  l2 : c.outs.length ≤ 2000
  l4 : c.eqs.length ≤ 2000
/-- The clocks by name, as they lie in memory. -/
structure CLs (W0 : World) (c : CP) (CL : Nat) (tq : TQ) (w : World) : Prop where
  sm : SM Try.prog 9 CL (ctL tq) w
  tab : ∀ e ∈ tq, EdIn W0 e.2 e.1.clk
  vt : clksH c = tq.vt
theorem CLs.look {W0 w : World} {c : CP} {CL : Nat} {tq : TQ} (h : CLs W0 c CL tq w) {nm : ByteArray} (hn : nm.size ≤ maxLen) : ∃ p k, (Instr.lookup 73 (.map (some CL)) (.string nm) false).run Try.prog w = .ok (.slice p (clkT (clksH c) nm).length k) w ∧ EdIn W0 (.slice p (clkT (clksH c) nm).length k) (clkT (clksH c) nm) := by
  have h1 := h.sm.look Try.underlying9 Try.underlying73 (czeroE w) hn
  rw [h.vt]
  rcases find_ct nm tq with ⟨e, he, h2, h3⟩ | ⟨h2, h3⟩
  · rw [h3] at h1
    have hc : clkT tq.vt nm = e.1.clk := by unfold clkT; rw [h2]; rfl
    have hed := h.tab e he
    obtain ⟨p, c, e1, -, -⟩ := hed.slice
    rw [hc]
    exact ⟨p, c, by rw [← e1]; exact h1, by rw [← e1]; exact hed⟩
  · rw [h3] at h1
    have hc : clkT tq.vt nm = [] := by unfold clkT; rw [h2]; rfl
    rw [hc]
    exact ⟨none, 0, h1, EdIn.nil W0⟩
/-- A list of numbers that is read, off two blocks. -/
structure Rd2 (w : World) (v : Value) (n : Nat) (l : List Int) (B M : Nat) : Prop where
  sl : SlC w v n (i64s l)
  len : l.length = n
  off : n ≠ 0 → ∀ b, v.ownBlock = some b → b ≠ B ∧ b ≠ M
/-- What a step finds. -/
structure T0 (W0 : World) (x : S4) (B : Nat) (cm : Value) (K MB n : Nat) (vt : VT) (ms : MS) (tick : Int) (w : World) : Prop where
  ext : Ext W0 w
  box : BoxV B [x.iv, x.ov, x.lv, x.ev, .map (some K), cm, .slice (some ⟨MB, 0, none⟩) n n, .int .i64 tick] w
  mp : SM Try.prog 9 K (ktL vt) w
  mem : w.heap[MB]? = some (.cells (mmCells ms).toArray 100 (0, 0))
  len : ms.length = n
  bk : B ≠ K
  bm : B ≠ MB
  km : K ≠ MB
  lb : W0.heap.size ≤ B
  lk : W0.heap.size ≤ K
  lm : W0.heap.size ≤ MB
theorem T0.mlt {W0 w : World} {x : S4} {B K MB n : Nat} {cm : Value} {vt : VT} {ms : MS} {tick : Int} (h : T0 W0 x B cm K MB n vt ms tick w) : MB < w.heap.size := (Array.getElem?_eq_some_iff.1 h.mem).1
theorem T0.next {W0 w w' : World} {x : S4} {B K MB n : Nat} {cm : Value} {vt : VT} {ms : MS} {tick : Int} (h : T0 W0 x B cm K MB n vt ms tick w) (hx : Ext w w') : T0 W0 x B cm K MB n vt ms tick w' := { h with ext := h.ext.trans hx, box := h.box.ext hx, mp := h.mp.ext hx, mem := ext_block hx h.mem }
theorem T0.kb {W0 w w' : World} {x : S4} {B K MB n : Nat} {cm : Value} {vt : VT} {ms : MS} {tick : Int} {S : List Nat} (h : T0 W0 x B cm K MB n vt ms tick w) (hk : Kb S w w') (h0 : ∀ k ∈ S, W0.heap.size ≤ k) (hS : ∀ k ∈ S, k ≠ B ∧ k ≠ K ∧ k ≠ MB) : T0 W0 x B cm K MB n vt ms tick w' :=
  { h with ext := hk.ext h.ext h0, box := h.box.kb hk (fun e => (hS _ e).1 rfl), mp := h.mp.kb hk (fun e => (hS _ e).2.1 rfl), mem := hk.heap (fun e => (hS _ e).2.2 rfl) h.mem }
theorem TS.t0 {W0 w : World} {x : S4} {B K C MB n : Nat} {vt : VT} {t : CE0} {ms : MS} {tick : Int} (h : TS W0 x B K C MB n vt t ms tick w) : T0 W0 x B (.map (some C)) K MB n vt ms tick w :=
  ⟨h.rs.ext, h.rs.box, h.rs.km, h.mem, h.len, h.bk, h.bm, h.km, h.lb, h.lk, h.lm⟩
def RetSt (W0 : World) (c : CP) (x : S4) (B K MB n : Nat) (order r : List Int) (ms : MS) (tick : Int) (w : World) (e : Ending) (w' : World) : Prop :=
  ∃ p cap C2, e = .returned (.slice p c.outs.length cap) ∧ Hid (TS W0 x B K C2 MB n (clksH c) (tickC c (kindT (clksH c)) (clksH c) order ms tick r) (keepQ (tickC c (kindT (clksH c)) (clksH c) order ms tick r) c.eqs ms) (tick + 1) w' ∧ Kb [B, MB] w w' ∧
    w'.ownsRow w.heap.size 3 1 (.slice p c.outs.length cap) c.outs.length (i64s (c.outs.map fun v => getV (tickC c (kindT (clksH c)) (clksH c) order ms tick r) v.name)) ∧ w.heap.size ≤ C2 ∧ ∀ m, I64 (getV (tickC c (kindT (clksH c)) (clksH c) order ms tick r) m))
set_option maxHeartbeats 16000000 in
theorem rstep_any {W0 w : World} {c : CP} {x : S4} {B K MB n : Nat} {cm0 : Value} {ms : MS} {tick : Int} {CL : Nat} {tq : TQ} {order r : List Int} {po pr : Option Addr} {no co nr cr : Nat}
    (hts : T0 W0 x B cm0 K MB n (clksH c) ms tick w) (hc : CPIn W0 c x) (hg : goodC c) (hn : n = c.eqs.length) (hcl : CLs W0 c CL tq w) (hcb : CL ≠ B ∧ CL ≠ MB)
    (ho : Rd2 w (.slice po no co) no order B MB) (hoi : ∀ i ∈ order, 0 ≤ i ∧ i < (n : Int)) (hno : no ≤ 100000) (hr : Rd2 w (.slice pr nr cr) nr r B MB) (hri : ∀ i ∈ r, I64 i) (hnr : nr = c.ins.length)
    (ht : 0 ≤ tick ∧ tick ≤ 1000000000000000) (hms : ∀ m ∈ ms, I64 (m.getD 0)) :
    Calls Try.prog 30 #[.pointer (some ⟨B, 0, none⟩), .slice po no co, .map (some CL), .slice pr nr cr] w (RetSt W0 c x B K MB n order r ms tick w) := by
  obtain ⟨Q, hQ⟩ : ∃ Q, Q = RetSt W0 c x B K MB n order r ms tick w := ⟨_, rfl⟩
  rw [← hQ]
  have HQ := Lib.hid hQ
  have HTS := Lib.hid hts
  have HG := Lib.hid hg
  have HCL := Lib.hid (And.intro hcl hcb)
  have HOR := Lib.hid (And.intro ho hoi)
  have HRR := Lib.hid (And.intro hr hri)
  have HMS := Lib.hid hms
  obtain ⟨htk0, htk1⟩ := ht
  have hl1 := hg.l1
  have hl2 := hg.l2
  have hl4 := hg.l4
  obtain ⟨iv, ov, lv, ev⟩ := x
  obtain ⟨qs1, h1⟩ := hc.ins
  obtain ⟨qs2, h2⟩ := hc.outs
  obtain ⟨qs3, h3⟩ := hc.locals
  have h4 := hc.eqs
  obtain ⟨p1, c1, e1, hd1, hm1⟩ := h1.slice
  obtain ⟨p2, c2, e2, hd2, hm2⟩ := h2.slice
  obtain ⟨p3, c3, e3, hd3, hm3⟩ := h3.slice
  obtain ⟨p4, c4, e4, hd4, hm4⟩ := h4.slice
  simp only at e1 e2 e3 e4
  subst e1 e2 e3 e4
  simp only at h1 h2 h3 h4
  obtain ⟨n1, hn1⟩ : ∃ n, n = c.ins.length := ⟨_, rfl⟩
  obtain ⟨n2, hn2⟩ : ∃ n, n = c.outs.length := ⟨_, rfl⟩
  obtain ⟨n3, hn3⟩ : ∃ n, n = c.locals.length := ⟨_, rfl⟩
  obtain ⟨n4, hn4⟩ : ∃ n, n = c.eqs.length := ⟨_, rfl⟩
  have HN := Lib.hid (And.intro hn1 (And.intro hn2 (And.intro hn3 hn4)))
  have hcI1 : (c1 : Int) ≤ 9223372036854775807 := by unfold maxLen at hm1; omega
  have hcI2 : (c2 : Int) ≤ 9223372036854775807 := by unfold maxLen at hm2; omega
  have hcI4 : (c4 : Int) ≤ 9223372036854775807 := by unfold maxLen at hm4; omega
  rw [← hn1] at h1 hd1 hnr hl1
  rw [← hn2] at h2 hd2 hl2
  rw [← hn3] at h3 hd3
  rw [← hn4] at h4 hd4 hl4 hn
  simp only [← hn1, ← hn2, ← hn3, ← hn4] at HTS HQ
  replace hn := hn.symm
  replace hnr := hnr.symm
  subst hn
  subst hnr
  have H1 := Lib.hid h1
  have H2 := Lib.hid h2
  have HE := Lib.hid h4
  have hrc : n1 ≤ cr ∧ (cr : Int) ≤ 9223372036854775807 := by
    obtain ⟨a', c', e, h5, h6, -⟩ := hr.sl
    simp only [Value.slice.injEq] at e
    rw [e.2.2]
    unfold maxLen at h6
    exact ⟨h5, by omega⟩
  obtain ⟨hrc1, hrc2⟩ := hrc
  have hoc : no ≤ co ∧ (co : Int) ≤ 9223372036854775807 := by
    obtain ⟨a', c', e, h5, h6, -⟩ := ho.sl
    simp only [Value.slice.injEq] at e
    rw [e.2.2]
    unfold maxLen at h6
    exact ⟨h5, by omega⟩
  obtain ⟨hoc1, hoc2⟩ := hoc
  have g5 := HTS.out.box.cells 5 _ rfl
  have g0 := HTS.out.box.cells 0 _ rfl
  have gf := HTS.out.box.fz 5
  have gl := HTS.out.box.lt
  have hmk := @run_makeMap Try.prog
  clear hQ hts hc hg hcl hcb ho hoi hr hri hms h1 h2 h3 h4 hn1 hn2 hn3 hn4 hm1 hm2 hm3 hm4 hd3
  go_enter Try.func30, Try.ntmps30
  go_upto_region 3 with fail
  have hkb : Kb [B] w ((w.setCell ⟨B, 5, none⟩ (.map (some w.heap.size))).alloc (.map #[] 0)) := (Kb.set w B 5 (by simp) _).trans (Kb.of_ext ((Ext.refl _).alloc _))
  have hts : TS W0 ⟨.slice p1 n1 c1, .slice p2 n2 c2, .slice p3 n3 c3, .slice p4 n4 c4⟩ B K w.heap.size MB n4 (clksH c) [] ms tick ((w.setCell ⟨B, 5, none⟩ (.map (some w.heap.size))).alloc (.map #[] 0)) := by
    have hBl := HTS.out.box.lt
    have hKl := HTS.out.mp.lt
    have hMl := HTS.out.mlt
    have hx := HTS.out.ext.size
    refine { len := HTS.out.len, bk := HTS.out.bk, bm := HTS.out.bm, km := HTS.out.km, lb := HTS.out.lb, lk := HTS.out.lk, lm := HTS.out.lm, rs := ⟨hkb.ext HTS.out.ext (by have := HTS.out.lb; simp; omega), ?_, HTS.out.mp.kb hkb (by have := HTS.out.bk; simp; omega), ?_⟩, mem := hkb.heap (by have := HTS.out.bm; simp; omega) HTS.out.mem, bc := by omega, kc := by omega, cm := by omega, lc := hx }
    · exact ((HTS.out.box.put 5 (.map (some w.heap.size))).cast rfl).ext ((Ext.refl _).alloc _)
    · have h9 := SM.made Try.prog 9 (w.setCell ⟨B, 5, none⟩ (.map (some w.heap.size)))
      have e9 : (w.setCell ⟨B, 5, none⟩ (.map (some w.heap.size))).heap.size = w.heap.size := by simp
      rw [e9] at h9
      exact h9
  have hkb2 : Kb [B, MB] w ((w.setCell ⟨B, 5, none⟩ (.map (some w.heap.size))).alloc (.map #[] 0)) := hkb.mono (by simp)
  generalize ((w.setCell ⟨B, 5, none⟩ (.map (some w.heap.size))).alloc (.map #[] 0)) = w1 at hts hkb2 ⊢
  have HC2 : Hid (w.heap.size ≤ w.heap.size) := Lib.hid (Nat.le_refl _)
  obtain ⟨C2, hC2⟩ : ∃ z, z = w.heap.size := ⟨_, rfl⟩
  have HC2 : Hid (w.heap.size ≤ C2) := Lib.hid (by omega)
  rw [← hC2] at hts
  have HT1 := Lib.hid (And.intro hts hkb2)
  clear hkb hts hkb2 hC2 g5 g0 gf gl hmk
  have HRV : Hid (∀ (k : Nat) (u : Value), (i64s r)[k]? = some u → ∃ b o, pr = some ⟨b, o, none⟩ ∧ w.cell? ⟨b, o + k, none⟩ = some u ∧ b ∉ [B, MB]) := Lib.hid (fun k u hu => by
    obtain ⟨a', c', e, -, -, h5⟩ := HRR.out.1.sl
    simp only [Value.slice.injEq] at e
    obtain ⟨b, o, e2, h6⟩ := h5 k u hu
    refine ⟨b, o, e.1.trans e2, h6, ?_⟩
    have := HRR.out.1.off (by have h7 := (List.getElem?_eq_some_iff.1 hu).1; have h8 := HRR.out.1.len; simp [i64s] at h7; omega) b (by rw [e.1, e2]; rfl)
    simp; omega)
  go_loopw [30] (fun i wr => ∃ (k : Nat) (t : CE0), k ≤ n1 ∧ i = .int .i64 (k : Int) ∧ t.length ≤ k ∧ Hid (TS W0 ⟨.slice p1 n1 c1, .slice p2 n2 c2, .slice p3 n3 c3, .slice p4 n4 c4⟩ B K C2 MB n4 (clksH c) t ms tick wr ∧ Kb [B, MB] w wr) ∧ Hid (insR c.ins r [] = insR (c.ins.drop k) (r.drop k) t ∧ ∀ m, I64 (getV t m))) (fun i _ => n1 - (intOf i).toNat)
  case atStart => exact ⟨0, [], Nat.zero_le _, rfl, Nat.le_refl _, HT1, Lib.hid ⟨rfl, fun m => zero_64⟩⟩
  case round =>
    obtain ⟨k, t, hk, rfl, htl, HS, HJ⟩ := hrel
    by_cases hlt : k < n1
    · have hki : (k : Int) < (n1 : Int) := Int.ofNat_lt.2 hlt
      have HV := H1
      have hxl := HS.out.1.rs.ext
      obtain ⟨v, hv⟩ : ∃ v, (c.ins)[k]? = some v := ⟨_, List.getElem?_eq_getElem (by rw [← HN.out.1]; exact hlt)⟩
      obtain ⟨bv_, ov_, pq, cq, hpe, hqv, v0_, v1_, v2_, hev, hvl⟩ := (HV.out.ext hxl).at hv
      subst hpe
      obtain ⟨mq, hnq⟩ : ∃ n, n = v.clk.length := ⟨_, rfl⟩
      rw [← hnq] at v2_ hev hqv
      have hjv : k < c1 := by omega
      have HVV := Lib.hid (And.intro hv (And.intro hev (And.intro hnq hqv)))
      have hxy : Ext wr (wr.alloc (.cells #[.string v.name, .int .i64 v.kind, .slice pq mq cq] 30)) := (Ext.refl wr).alloc _
      have hby : BoxV wr.heap.size [.string v.name, .int .i64 v.kind, .slice pq mq cq] (wr.alloc (.cells #[.string v.name, .int .i64 v.kind, .slice pq mq cq] 30)) := BoxV.of_row (heap_alloc_last wr _)
      have HXY := Lib.hid hxy
      clear hv hev hnq hqv
      go_upto_region 5 with fail
      generalize (wr.alloc (.cells #[.string v.name, .int .i64 v.kind, .slice pq mq cq] 30)) = wy at hby hxy HXY ⊢
      generalize wr.heap.size = Y at hby ⊢
      have d0 := hby.cells 0 _ rfl
      have d1 := hby.cells 1 _ rfl
      have d2 := hby.cells 2 _ rfl
      have hyl := hby.lt
      clear hby hxy v0_ v1_ v2_ hvl
      obtain ⟨rv, hrv⟩ : ∃ z, r[k]? = some z := ⟨_, List.getElem?_eq_getElem (by rw [HRR.out.1.len]; exact hlt)⟩
      obtain ⟨br, or_, rfl, cr0, hbr⟩ := HRV.out k (.int .i64 rv) (by simp [i64s, hrv])
      have cr1 := HXY.out.cell (HS.out.2.cell hbr cr0)
      have crl := World.block_lt_of_cell? wy _ cr1
      have hkcr : k < cr := by omega
      have hts2 := HS.out.1.next HXY.out
      have g5 := hts2.rs.box.cells 5 _ rfl
      have gl := hts2.rs.box.lt
      have HT2 := Lib.hid hts2
      have HINS : Hid (insR c.ins r [] = insR (c.ins.drop (k + 1)) (r.drop (k + 1)) ((v.name, rv) :: t) ∧ ∀ m, I64 (getV ((v.name, rv) :: t) m)) := Lib.hid ⟨by rw [HJ.out.1, insR_at HVV.out.1 hrv], getV_64 HJ.out.2 _ (HRR.out.2 rv (List.mem_of_getElem? hrv))⟩
      have HVN : Hid (v.name.size ≤ maxLen) := Lib.hid (HG.out.ok.ins v (List.mem_of_getElem? HVV.out.1)).name
      clear hrv cr0 hbr hts2
      (refine region_drew_tail 11 (by kernel_rfl) (by kernel_rfl) ?_; simp only [List.take_succ_cons, List.take_zero, List.drop_succ_cons, List.drop_zero]; (repeat (go_big_quiet_step (fail))); refine wpQuiet_nil ?_; rintro _ ⟨nq, rfl⟩)
      obtain ⟨w9, hrun, hk9, ht9⟩ := (HT2.out.next ((Ext.refl wy).drewN nq)).put (nm := v.name) HVN.out (by omega) rv
      have H9 := Lib.hid (And.intro hk9 ht9)
      clear hk9 ht9
      go_wp2
      exact ⟨⟨k + 1, (v.name, rv) :: t, by omega, by go_num, by simp; omega, Lib.hid ⟨H9.out.2, ((HS.out.2.trans (Kb.of_ext HXY.out)).trans (Kb.of_ext ((Ext.refl wy).drewN nq))).trans_new H9.out.1 (fun z hz => by simp at hz; subst hz; exact .inr HC2.out)⟩, HINS⟩, by simp [intOf]; omega⟩
    · have hki : ¬ (k : Int) < (n1 : Int) := fun e => hlt (Int.ofNat_lt.1 e)
      obtain rfl : n1 = k := by omega
      have HIN : Hid (insR c.ins r [] = t ∧ ∀ m, I64 (getV t m)) := Lib.hid ⟨by rw [HJ.out.1, HN.out.1, List.drop_length]; rfl, HJ.out.2⟩
      obtain ⟨t1, ht1⟩ : ∃ z, z = t := ⟨_, rfl⟩
      have HOV : Hid (∀ (j : Nat) (u : Value), (i64s order)[j]? = some u → ∃ b o, po = some ⟨b, o, none⟩ ∧ w.cell? ⟨b, o + j, none⟩ = some u ∧ b ∉ [B, MB]) := Lib.hid (fun j u hu => by
        obtain ⟨a', c', e, -, -, h5⟩ := HOR.out.1.sl
        simp only [Value.slice.injEq] at e
        obtain ⟨b, o, e2, h6⟩ := h5 j u hu
        refine ⟨b, o, e.1.trans e2, h6, ?_⟩
        have := HOR.out.1.off (by have h7 := (List.getElem?_eq_some_iff.1 hu).1; have h8 := HOR.out.1.len; simp [i64s] at h7; omega) b (by rw [e.1, e2]; rfl)
        simp; omega)
      have HTT := Lib.hid HS.out
      have HT1E := Lib.hid ht1
      clear ht1
      obtain ⟨wq, hwq⟩ : ∃ z, z = wr := ⟨_, rfl⟩
      subst hwq
      go_upto_region 8 with fail
      go_loopw [49] (fun i wr => ∃ (j : Nat) (t : CE0), j ≤ no ∧ i = .int .i64 (j : Int) ∧ t.length ≤ n1 + j ∧ Hid (TS W0 ⟨.slice p1 n1 c1, .slice p2 n2 c2, .slice p3 n3 c3, .slice p4 n4 c4⟩ B K C2 MB n4 (clksH c) t ms tick wr ∧ Kb [B, MB] w wr) ∧ Hid (stepQ c (kindT (clksH c)) (clksH c) ms tick order t1 = stepQ c (kindT (clksH c)) (clksH c) ms tick (order.drop j) t ∧ ∀ m, I64 (getV t m))) (fun i _ => no - (intOf i).toNat)
      case atStart => exact ⟨0, t, Nat.zero_le _, rfl, htl, HTT, Lib.hid ⟨by rw [HT1E.out]; rfl, HIN.out.2⟩⟩
      case round =>
        obtain ⟨j, t, hj, rfl, htl, HS, HJ⟩ := hrel
        by_cases hlt : j < no
        · have hji : (j : Int) < (no : Int) := Int.ofNat_lt.2 hlt
          obtain ⟨xo, hxo⟩ : ∃ z, order[j]? = some z := ⟨_, List.getElem?_eq_getElem (by rw [HOR.out.1.len]; exact hlt)⟩
          have hxb := HOR.out.2 xo (List.mem_of_getElem? hxo)
          obtain ⟨iq, hiq⟩ : ∃ z : Nat, xo = (z : Int) := ⟨xo.toNat, by omega⟩
          subst hiq
          have hiqn : iq < n4 := by omega
          have hiqI : (iq : Int) < (n4 : Int) := by omega
          obtain ⟨bo, oo, rfl, co0, hbo⟩ := HOV.out j (.int .i64 (iq : Int)) (by simp [i64s, hxo])
          have co1 := HS.out.2.cell hbo co0
          have col := World.block_lt_of_cell? wr _ co1
          have hjco : j < co := by omega
          have HXO := Lib.hid hxo
          have g3 := HS.out.1.rs.box.cells 3 _ rfl
          have gl := HS.out.1.rs.box.lt
          have hxw := HS.out.1.rs.ext
          clear hxo hxb co0 hbo
          obtain ⟨q, hq⟩ : ∃ q, c.eqs[iq]? = some q := ⟨_, List.getElem?_eq_getElem (by have := HN.out.2.2.2; omega)⟩
          obtain ⟨b, o, pk, ck, hpe, hkq, hcq, hbl⟩ := HE.out.at hq
          subst hpe
          obtain ⟨nk, hnk⟩ : ∃ n, n = q.e.kids.length := ⟨_, rfl⟩
          rw [← hnk] at hkq hcq
          have hjc : iq < c4 := by omega
          have hbl2 := Nat.lt_of_lt_of_le hbl hxw.size
          have c0_ := hxw.cell (hcq 0 _ rfl)
          have c1_ := hxw.cell (hcq 1 _ rfl)
          have c2_ := hxw.cell (hcq 2 _ rfl)
          have c3_ := hxw.cell (hcq 3 _ rfl)
          have c4_ := hxw.cell (hcq 4 _ rfl)
          have c5_ := hxw.cell (hcq 5 _ rfl)
          have c6_ := hxw.cell (hcq 6 _ rfl)
          have c7_ := hxw.cell (hcq 7 _ rfl)
          have c8_ := hxw.cell (hcq 8 _ rfl)
          have c9_ := hxw.cell (hcq 9 _ rfl)
          have c10_ := hxw.cell (hcq 10 _ rfl)
          have c11_ := hxw.cell (hcq 11 _ rfl)
          have c12_ := hxw.cell (hcq 12 _ rfl)
          rw [Nat.add_zero] at c0_
          have HX := Lib.hid (And.intro hq (And.intro hkq hnk))
          have hxy : Ext wr (wr.alloc (.cells #[.int .i64 q.form, .string q.name, .int .i64 q.e.form, .int .i64 q.e.sub, .int .i64 q.e.kind, .int .i64 q.e.n, .string q.e.name, .slice pk nk ck, .int .i64 q.init, .string q.next, .string q.reset, .int .i64 q.period, .int .i64 q.offset] 35)) := (Ext.refl wr).alloc _
          have hby : BoxV wr.heap.size [.int .i64 q.form, .string q.name, .int .i64 q.e.form, .int .i64 q.e.sub, .int .i64 q.e.kind, .int .i64 q.e.n, .string q.e.name, .slice pk nk ck, .int .i64 q.init, .string q.next, .string q.reset, .int .i64 q.period, .int .i64 q.offset] (wr.alloc (.cells #[.int .i64 q.form, .string q.name, .int .i64 q.e.form, .int .i64 q.e.sub, .int .i64 q.e.kind, .int .i64 q.e.n, .string q.e.name, .slice pk nk ck, .int .i64 q.init, .string q.next, .string q.reset, .int .i64 q.period, .int .i64 q.offset] 35)) := BoxV.of_row (heap_alloc_last wr _)
          have HXY := Lib.hid hxy
          clear hq hkq hcq hbl hnk hxw
          go_upto_region 11 with fail
          generalize (wr.alloc (.cells #[.int .i64 q.form, .string q.name, .int .i64 q.e.form, .int .i64 q.e.sub, .int .i64 q.e.kind, .int .i64 q.e.n, .string q.e.name, .slice pk nk ck, .int .i64 q.init, .string q.next, .string q.reset, .int .i64 q.period, .int .i64 q.offset] 35)) = wy at hby hxy HXY ⊢
          generalize wr.heap.size = Y at hby ⊢
          have d0 := hby.cells 0 _ rfl
          have d1 := hby.cells 1 _ rfl
          have d2 := hby.cells 2 _ rfl
          have d3 := hby.cells 3 _ rfl
          have d4 := hby.cells 4 _ rfl
          have d5 := hby.cells 5 _ rfl
          have d6 := hby.cells 6 _ rfl
          have d7 := hby.cells 7 _ rfl
          have d8 := hby.cells 8 _ rfl
          have d9 := hby.cells 9 _ rfl
          have d10 := hby.cells 10 _ rfl
          have d11 := hby.cells 11 _ rfl
          have d12 := hby.cells 12 _ rfl
          have hyl := hby.lt
          clear hby hxy hbl2 c0_ c1_ c2_ c3_ c4_ c5_ c6_ c7_ c8_ c9_ c10_ c11_ c12_
          have HOQ := Lib.hid (HG.out.ok.eqs q (List.mem_of_getElem? HX.out.1))
          have hts2 := HS.out.1.next HXY.out
          have HT2 := Lib.hid hts2
          have hk2 := HS.out.2.trans (Kb.of_ext HXY.out)
          have HK2 := Lib.hid hk2
          have hcl2 : CLs W0 c CL tq wy := ⟨HCL.out.1.sm.kb hk2 (by have := HCL.out.2; simp; omega), HCL.out.1.tab, HCL.out.1.vt⟩
          obtain ⟨pk9, ck9, hlk, hed⟩ := hcl2.look HOQ.out.name
          have hho := rholds_any hts2.rs hed (fun e he => by
            rw [HCL.out.1.vt] at he
            exact clk_names HCL.out.1.vt HG.out.ok he)
          obtain ⟨lk9, hlk9⟩ : ∃ z, z = (clkT (clksH c) q.name).length := ⟨_, rfl⟩
          rw [← hlk9] at hlk hho
          obtain ⟨hb, hhb⟩ : ∃ z, z = holdsR t (clkT (clksH c) q.name) := ⟨_, rfl⟩
          rw [← hhb] at hho
          have HHO := Lib.hid hho
          have HHB := Lib.hid hhb
          clear hho hhb hlk9 hed hcl2 hk2 hts2 co1 col g3 gl
          cases hb with
          | false =>
            have HC : Hid (stepQ c (kindT (clksH c)) (clksH c) ms tick order t1 = stepQ c (kindT (clksH c)) (clksH c) ms tick (order.drop (j + 1)) t ∧ ∀ m, I64 (getV t m)) := Lib.hid ⟨by rw [HJ.out.1, stepQ_at _ _ _ _ _ HXO.out HX.out.1, ← HHB.out]; rfl, HJ.out.2⟩
            go_wp2_with (first | (go_at_call 49; refine HHO.out.mono ?_; rintro e2 w2 ⟨rfl, H2⟩) | fail)
            exact ⟨⟨j + 1, t, by omega, by go_num, by omega, Lib.hid ⟨HT2.out.next H2.out, HK2.out.trans (Kb.of_ext H2.out)⟩, HC⟩, by simp [intOf]; omega⟩
          | true =>
            have HC0 : Hid (stepQ c (kindT (clksH c)) (clksH c) ms tick order t1 = stepQ c (kindT (clksH c)) (clksH c) ms tick (order.drop (j + 1)) ((q.name, defQ (kindT (clksH c)) ms tick t iq q) :: t)) := Lib.hid (by rw [HJ.out.1, stepQ_at _ _ _ _ _ HXO.out HX.out.1, ← HHB.out]; rfl)
            go_upto_region 12 with (first | (go_at_call 49; refine HHO.out.mono ?_; rintro e2 w2 ⟨rfl, H2⟩) | fail)
            have hts3 := HT2.out.next H2.out
            have HT3 := Lib.hid (And.intro hts3 (HK2.out.trans (Kb.of_ext H2.out)))
            have d0 := H2.out.cell d0
            have d1 := H2.out.cell d1
            have d2 := H2.out.cell d2
            have d3 := H2.out.cell d3
            have d4 := H2.out.cell d4
            have d5 := H2.out.cell d5
            have d6 := H2.out.cell d6
            have d7 := H2.out.cell d7
            have d8 := H2.out.cell d8
            have d9 := H2.out.cell d9
            have d10 := H2.out.cell d10
            have d11 := H2.out.cell d11
            have d12 := H2.out.cell d12
            have hyl := Nat.lt_of_lt_of_le hyl H2.out.size
            have g5 := hts3.rs.box.cells 5 _ rfl
            have g6 := hts3.rs.box.cells 6 _ rfl
            have g7 := hts3.rs.box.cells 7 _ rfl
            have gl := hts3.rs.box.lt
            clear hlk
            by_cases a1 : q.form = 1
            · have q1 : (q.form == 1) = true := by simpa using a1
              obtain ⟨vv, hvv⟩ : ∃ z, z = evE (kindT (clksH c)) t q.e := ⟨_, rfl⟩
              have HEX : Hid (Calls Try.prog 50 #[.pointer (some ⟨B, 0, none⟩), .agg #[.int .i64 q.e.form, .int .i64 q.e.sub, .int .i64 q.e.kind, .int .i64 q.e.n, .string q.e.name, .slice pk nk ck]] w2 (RetI vv w2)) := Lib.hid (by
                have h1 := rexp_at HJ.out.2 (SizeOf.sizeOf q.e + 1) q.e (Nat.lt_succ_self _) _ w2 hts3.rs HX.out.2.1 HOQ.out.e (HG.out.fx q (List.mem_of_getElem? HX.out.1) a1)
                rw [← hvv] at h1
                exact h1)
              have HC : Hid (stepQ c (kindT (clksH c)) (clksH c) ms tick order t1 = stepQ c (kindT (clksH c)) (clksH c) ms tick (order.drop (j + 1)) ((q.name, vv) :: t) ∧ ∀ m, I64 (getV ((q.name, vv) :: t) m)) := Lib.hid ⟨by rw [HC0.out, defQ_1 _ _ _ _ _ _ a1, ← hvv], getV_64 HJ.out.2 _ (by rw [hvv]; exact evE_64 _ _ HJ.out.2 _ HOQ.out.e)⟩
              clear a1 hvv hts3
              go_upto_region 23 with (first | (go_at_call 50; refine HEX.out.mono ?_; rintro e3 w3 ⟨rfl, H3⟩; have d1 := H3.out.cell d1; have hyl := Nat.lt_of_lt_of_le hyl H3.out.size; have g5 := H3.out.cell g5; have gl := Nat.lt_of_lt_of_le gl H3.out.size) | fail)
              (refine region_drew_tail 8 (by kernel_rfl) (by kernel_rfl) ?_; simp only [List.take_succ_cons, List.take_zero, List.drop_succ_cons, List.drop_zero]; (repeat (go_big_quiet_step (fail))); refine wpQuiet_nil ?_; rintro _ ⟨nq, rfl⟩)
              obtain ⟨w9, hrun, hk9, ht9⟩ := ((HT3.out.1.next H3.out).next ((Ext.refl _).drewN nq)).put (nm := q.name) HOQ.out.name (by omega) (vv)
              have H9 := Lib.hid (And.intro hk9 ht9)
              clear hk9 ht9
              go_wp2
              exact ⟨⟨j + 1, (q.name, vv) :: t, by omega, by go_num, by simp; omega, Lib.hid ⟨H9.out.2, ((HT3.out.2.trans (Kb.of_ext H3.out)).trans (Kb.of_ext ((Ext.refl _).drewN nq))).trans_new H9.out.1 (fun z hz => by simp at hz; subst hz; exact .inr HC2.out)⟩, HC⟩, by simp [intOf]; omega⟩
            have q1 : (q.form == 1) = false := by simpa using a1
            by_cases a2 : q.form = 2
            · have q2 : (q.form == 2) = true := by simpa using a2
              obtain ⟨mo, hmo⟩ : ∃ z, ms[iq]? = some z := ⟨_, List.getElem?_eq_getElem (by rw [HTS.out.len]; exact hiqn)⟩
              obtain ⟨m0, m1⟩ := hts3.mcell hmo
              have ml := hts3.mlt
              have hmI := HMS.out mo (List.mem_of_getElem? hmo)
              have HDQ := Lib.hid (defQ_2 (kindT (clksH c)) ms tick t iq q a2 hmo)
              obtain ⟨mv, hmv⟩ : ∃ z, z = mo.getD 0 := ⟨_, rfl⟩
              obtain ⟨mb, hmb⟩ : ∃ z, z = mo.isSome := ⟨_, rfl⟩
              rw [← hmv] at m0 hmI HDQ
              rw [← hmb] at m1 HDQ
              have lk0 := fun n' : Nat => (hts3.rs.next ((Ext.refl w2).drewN n')).look HOQ.out.reset
              obtain ⟨gr, hgr⟩ : ∃ z, z = getV t q.reset := ⟨_, rfl⟩
              rw [← hgr] at lk0 HDQ
              have HMI := Lib.hid hmI
              clear hmo hmv hmb hgr hmI a1 a2 hts3
              cases mb with
              | false =>
                have HC : Hid (stepQ c (kindT (clksH c)) (clksH c) ms tick order t1 = stepQ c (kindT (clksH c)) (clksH c) ms tick (order.drop (j + 1)) ((q.name, q.init) :: t) ∧ ∀ m, I64 (getV ((q.name, q.init) :: t) m)) := Lib.hid ⟨by rw [HC0.out, HDQ.out, if_neg (by simp)], getV_64 HJ.out.2 _ (HOQ.out.init)⟩
                go_upto_region 18 with fail
                (refine region_drew (by kernel_rfl) (by kernel_rfl) ?_; (repeat (go_big_quiet_step (fail))); refine wpQuiet_nil ?_; rintro _ ⟨nq, rfl⟩)
                have hxq : Ext w2 (w2.drewN nq) := (Ext.refl w2).drewN nq
                have d1 := hxq.cell d1
                have hyl := Nat.lt_of_lt_of_le hyl hxq.size
                have g5 := hxq.cell g5
                have g6 := hxq.cell g6
                have m0 := hxq.cell m0
                have ml := Nat.lt_of_lt_of_le ml hxq.size
                have gl := Nat.lt_of_lt_of_le gl hxq.size
                have HXQ := Lib.hid hxq
                clear lk0 m1 g7 d0 d2 d3 d4 d5 d6 d7 d8 d9 d10 d11 d12
                generalize w2.drewN nq = w4 at hxq d1 hyl g5 g6 m0 ml gl HXQ ⊢
                clear hxq
                go_upto_region 23 with fail
                (refine region_drew_tail 8 (by kernel_rfl) (by kernel_rfl) ?_; simp only [List.take_succ_cons, List.take_zero, List.drop_succ_cons, List.drop_zero]; (repeat (go_big_quiet_step (fail))); refine wpQuiet_nil ?_; rintro _ ⟨nq, rfl⟩)
                obtain ⟨w9, hrun, hk9, ht9⟩ := ((HT3.out.1.next HXQ.out).next ((Ext.refl _).drewN nq)).put (nm := q.name) HOQ.out.name (by omega) (q.init)
                have H9 := Lib.hid (And.intro hk9 ht9)
                clear hk9 ht9
                go_wp2
                exact ⟨⟨j + 1, (q.name, q.init) :: t, by omega, by go_num, by simp; omega, Lib.hid ⟨H9.out.2, ((HT3.out.2.trans (Kb.of_ext HXQ.out)).trans (Kb.of_ext ((Ext.refl _).drewN nq))).trans_new H9.out.1 (fun z hz => by simp at hz; subst hz; exact .inr HC2.out)⟩, HC⟩, by simp [intOf]; omega⟩
              | true =>
                by_cases a3 : q.reset = ⟨#[]⟩
                · have r3 : q.reset.toList.isEmpty = true := by rw [ba_nil.2 a3]; rfl
                  have r4 : q.reset.toList = [] := ba_nil.2 a3
                  have HC : Hid (stepQ c (kindT (clksH c)) (clksH c) ms tick order t1 = stepQ c (kindT (clksH c)) (clksH c) ms tick (order.drop (j + 1)) ((q.name, mv) :: t) ∧ ∀ m, I64 (getV ((q.name, mv) :: t) m)) := Lib.hid ⟨by rw [HC0.out, HDQ.out, if_pos ⟨rfl, .inl a3⟩], getV_64 HJ.out.2 _ (HMI.out)⟩
                  go_upto_region 18 with fail
                  (refine region_drew (by kernel_rfl) (by kernel_rfl) ?_; (repeat (go_big_quiet_step (fail))); refine wpQuiet_nil ?_; rintro _ ⟨nq, rfl⟩)
                  have hxq : Ext w2 (w2.drewN nq) := (Ext.refl w2).drewN nq
                  have d1 := hxq.cell d1
                  have hyl := Nat.lt_of_lt_of_le hyl hxq.size
                  have g5 := hxq.cell g5
                  have g6 := hxq.cell g6
                  have m0 := hxq.cell m0
                  have ml := Nat.lt_of_lt_of_le ml hxq.size
                  have gl := Nat.lt_of_lt_of_le gl hxq.size
                  have HXQ := Lib.hid hxq
                  clear lk0 m1 g7 d0 d2 d3 d4 d5 d6 d7 d8 d9 d10 d11 d12
                  generalize w2.drewN nq = w4 at hxq d1 hyl g5 g6 m0 ml gl HXQ ⊢
                  clear hxq
                  go_upto_region 23 with fail
                  (refine region_drew_tail 8 (by kernel_rfl) (by kernel_rfl) ?_; simp only [List.take_succ_cons, List.take_zero, List.drop_succ_cons, List.drop_zero]; (repeat (go_big_quiet_step (fail))); refine wpQuiet_nil ?_; rintro _ ⟨nq, rfl⟩)
                  obtain ⟨w9, hrun, hk9, ht9⟩ := ((HT3.out.1.next HXQ.out).next ((Ext.refl _).drewN nq)).put (nm := q.name) HOQ.out.name (by omega) (mv)
                  have H9 := Lib.hid (And.intro hk9 ht9)
                  clear hk9 ht9
                  go_wp2
                  exact ⟨⟨j + 1, (q.name, mv) :: t, by omega, by go_num, by simp; omega, Lib.hid ⟨H9.out.2, ((HT3.out.2.trans (Kb.of_ext HXQ.out)).trans (Kb.of_ext ((Ext.refl _).drewN nq))).trans_new H9.out.1 (fun z hz => by simp at hz; subst hz; exact .inr HC2.out)⟩, HC⟩, by simp [intOf]; omega⟩
                have r3 : q.reset.toList.isEmpty = false := by
                  cases h : q.reset.toList with
                  | nil => exact absurd (ba_nil.1 h) a3
                  | cons _ _ => rfl
                have r4 : ¬ q.reset.toList = [] := fun e => a3 (ba_nil.1 e)
                by_cases hz : gr = 0
                · have hzq : (gr == 0) = true := by simpa using hz
                  have HC : Hid (stepQ c (kindT (clksH c)) (clksH c) ms tick order t1 = stepQ c (kindT (clksH c)) (clksH c) ms tick (order.drop (j + 1)) ((q.name, mv) :: t) ∧ ∀ m, I64 (getV ((q.name, mv) :: t) m)) := Lib.hid ⟨by rw [HC0.out, HDQ.out, if_pos ⟨rfl, .inr hz⟩], getV_64 HJ.out.2 _ (HMI.out)⟩
                  clear hz
                  go_upto_region 18 with fail
                  (refine region_drew (by kernel_rfl) (by kernel_rfl) ?_; (repeat (go_big_quiet_step (fail))); refine wpQuiet_nil ?_; rintro _ ⟨nq, rfl⟩)
                  have hxq : Ext w2 (w2.drewN nq) := (Ext.refl w2).drewN nq
                  have d1 := hxq.cell d1
                  have hyl := Nat.lt_of_lt_of_le hyl hxq.size
                  have g5 := hxq.cell g5
                  have g6 := hxq.cell g6
                  have m0 := hxq.cell m0
                  have ml := Nat.lt_of_lt_of_le ml hxq.size
                  have gl := Nat.lt_of_lt_of_le gl hxq.size
                  have HXQ := Lib.hid hxq
                  clear lk0 m1 g7 d0 d2 d3 d4 d5 d6 d7 d8 d9 d10 d11 d12
                  generalize w2.drewN nq = w4 at hxq d1 hyl g5 g6 m0 ml gl HXQ ⊢
                  clear hxq
                  go_upto_region 23 with fail
                  (refine region_drew_tail 8 (by kernel_rfl) (by kernel_rfl) ?_; simp only [List.take_succ_cons, List.take_zero, List.drop_succ_cons, List.drop_zero]; (repeat (go_big_quiet_step (fail))); refine wpQuiet_nil ?_; rintro _ ⟨nq, rfl⟩)
                  obtain ⟨w9, hrun, hk9, ht9⟩ := ((HT3.out.1.next HXQ.out).next ((Ext.refl _).drewN nq)).put (nm := q.name) HOQ.out.name (by omega) (mv)
                  have H9 := Lib.hid (And.intro hk9 ht9)
                  clear hk9 ht9
                  go_wp2
                  exact ⟨⟨j + 1, (q.name, mv) :: t, by omega, by go_num, by simp; omega, Lib.hid ⟨H9.out.2, ((HT3.out.2.trans (Kb.of_ext HXQ.out)).trans (Kb.of_ext ((Ext.refl _).drewN nq))).trans_new H9.out.1 (fun z hz => by simp at hz; subst hz; exact .inr HC2.out)⟩, HC⟩, by simp [intOf]; omega⟩
                · have hzq : (gr == 0) = false := by simpa using hz
                  have HC : Hid (stepQ c (kindT (clksH c)) (clksH c) ms tick order t1 = stepQ c (kindT (clksH c)) (clksH c) ms tick (order.drop (j + 1)) ((q.name, q.init) :: t) ∧ ∀ m, I64 (getV ((q.name, q.init) :: t) m)) := Lib.hid ⟨by rw [HC0.out, HDQ.out, if_neg (fun e => e.2.elim a3 hz)], getV_64 HJ.out.2 _ (HOQ.out.init)⟩
                  clear hz
                  go_upto_region 18 with fail
                  (refine region_drew (by kernel_rfl) (by kernel_rfl) ?_; (repeat (go_big_quiet_step (fail))); refine wpQuiet_nil ?_; rintro _ ⟨nq, rfl⟩)
                  have hxq : Ext w2 (w2.drewN nq) := (Ext.refl w2).drewN nq
                  have d1 := hxq.cell d1
                  have hyl := Nat.lt_of_lt_of_le hyl hxq.size
                  have g5 := hxq.cell g5
                  have g6 := hxq.cell g6
                  have m0 := hxq.cell m0
                  have ml := Nat.lt_of_lt_of_le ml hxq.size
                  have gl := Nat.lt_of_lt_of_le gl hxq.size
                  have HXQ := Lib.hid hxq
                  clear lk0 m1 g7 d0 d2 d3 d4 d5 d6 d7 d8 d9 d10 d11 d12
                  generalize w2.drewN nq = w4 at hxq d1 hyl g5 g6 m0 ml gl HXQ ⊢
                  clear hxq
                  go_upto_region 23 with fail
                  (refine region_drew_tail 8 (by kernel_rfl) (by kernel_rfl) ?_; simp only [List.take_succ_cons, List.take_zero, List.drop_succ_cons, List.drop_zero]; (repeat (go_big_quiet_step (fail))); refine wpQuiet_nil ?_; rintro _ ⟨nq, rfl⟩)
                  obtain ⟨w9, hrun, hk9, ht9⟩ := ((HT3.out.1.next HXQ.out).next ((Ext.refl _).drewN nq)).put (nm := q.name) HOQ.out.name (by omega) (q.init)
                  have H9 := Lib.hid (And.intro hk9 ht9)
                  clear hk9 ht9
                  go_wp2
                  exact ⟨⟨j + 1, (q.name, q.init) :: t, by omega, by go_num, by simp; omega, Lib.hid ⟨H9.out.2, ((HT3.out.2.trans (Kb.of_ext HXQ.out)).trans (Kb.of_ext ((Ext.refl _).drewN nq))).trans_new H9.out.1 (fun z hz => by simp at hz; subst hz; exact .inr HC2.out)⟩, HC⟩, by simp [intOf]; omega⟩
            have q2 : (q.form == 2) = false := by simpa using a2
            by_cases a3 : q.form = 3
            · have q3 : (q.form == 3) = true := by simpa using a3
              obtain ⟨hp1, hp2⟩ := HG.out.per q (List.mem_of_getElem? HX.out.1) a3
              have hdq3 := defQ_3 (kindT (clksH c)) ms tick t iq q a3
              rw [Int.tmod_eq_emod_of_nonneg htk0] at hdq3
              have HDQ := Lib.hid hdq3
              clear hdq3
              have hpz : ¬ q.period = 0 := by omega
              clear a1 a2 a3 hts3
              by_cases hz : tick % q.period = q.offset
              · have hzq : (tick % q.period == q.offset) = true := by simpa using hz
                have HC : Hid (stepQ c (kindT (clksH c)) (clksH c) ms tick order t1 = stepQ c (kindT (clksH c)) (clksH c) ms tick (order.drop (j + 1)) ((q.name, 1) :: t) ∧ ∀ m, I64 (getV ((q.name, 1) :: t) m)) := Lib.hid ⟨by rw [HC0.out, HDQ.out, if_pos hz], getV_64 HJ.out.2 _ (by unfold I64; omega)⟩
                clear hz
                go_upto_region 21 with fail
                (refine region_drew (by kernel_rfl) (by kernel_rfl) ?_; (repeat (go_big_quiet_step (fail))); refine wpQuiet_nil ?_; rintro _ ⟨nq, rfl⟩)
                have hxq : Ext w2 (w2.drewN nq) := (Ext.refl w2).drewN nq
                have d1 := hxq.cell d1
                have hyl := Nat.lt_of_lt_of_le hyl hxq.size
                have g5 := hxq.cell g5
                have gl := Nat.lt_of_lt_of_le gl hxq.size
                have HXQ := Lib.hid hxq
                clear g6 g7 d0 d2 d3 d4 d5 d6 d7 d8 d9 d10 d11 d12
                generalize w2.drewN nq = w4 at hxq d1 hyl g5 gl HXQ ⊢
                clear hxq
                go_upto_region 23 with fail
                (refine region_drew_tail 8 (by kernel_rfl) (by kernel_rfl) ?_; simp only [List.take_succ_cons, List.take_zero, List.drop_succ_cons, List.drop_zero]; (repeat (go_big_quiet_step (fail))); refine wpQuiet_nil ?_; rintro _ ⟨nq, rfl⟩)
                obtain ⟨w9, hrun, hk9, ht9⟩ := ((HT3.out.1.next HXQ.out).next ((Ext.refl _).drewN nq)).put (nm := q.name) HOQ.out.name (by omega) (1)
                have H9 := Lib.hid (And.intro hk9 ht9)
                clear hk9 ht9
                go_wp2
                exact ⟨⟨j + 1, (q.name, 1) :: t, by omega, by go_num, by simp; omega, Lib.hid ⟨H9.out.2, ((HT3.out.2.trans (Kb.of_ext HXQ.out)).trans (Kb.of_ext ((Ext.refl _).drewN nq))).trans_new H9.out.1 (fun z hz => by simp at hz; subst hz; exact .inr HC2.out)⟩, HC⟩, by simp [intOf]; omega⟩
              · have hzq : (tick % q.period == q.offset) = false := by simpa using hz
                have HC : Hid (stepQ c (kindT (clksH c)) (clksH c) ms tick order t1 = stepQ c (kindT (clksH c)) (clksH c) ms tick (order.drop (j + 1)) ((q.name, 0) :: t) ∧ ∀ m, I64 (getV ((q.name, 0) :: t) m)) := Lib.hid ⟨by rw [HC0.out, HDQ.out, if_neg hz], getV_64 HJ.out.2 _ (by unfold I64; omega)⟩
                clear hz
                go_upto_region 21 with fail
                (refine region_drew (by kernel_rfl) (by kernel_rfl) ?_; (repeat (go_big_quiet_step (fail))); refine wpQuiet_nil ?_; rintro _ ⟨nq, rfl⟩)
                have hxq : Ext w2 (w2.drewN nq) := (Ext.refl w2).drewN nq
                have d1 := hxq.cell d1
                have hyl := Nat.lt_of_lt_of_le hyl hxq.size
                have g5 := hxq.cell g5
                have gl := Nat.lt_of_lt_of_le gl hxq.size
                have HXQ := Lib.hid hxq
                clear g6 g7 d0 d2 d3 d4 d5 d6 d7 d8 d9 d10 d11 d12
                generalize w2.drewN nq = w4 at hxq d1 hyl g5 gl HXQ ⊢
                clear hxq
                go_upto_region 23 with fail
                (refine region_drew_tail 8 (by kernel_rfl) (by kernel_rfl) ?_; simp only [List.take_succ_cons, List.take_zero, List.drop_succ_cons, List.drop_zero]; (repeat (go_big_quiet_step (fail))); refine wpQuiet_nil ?_; rintro _ ⟨nq, rfl⟩)
                obtain ⟨w9, hrun, hk9, ht9⟩ := ((HT3.out.1.next HXQ.out).next ((Ext.refl _).drewN nq)).put (nm := q.name) HOQ.out.name (by omega) (0)
                have H9 := Lib.hid (And.intro hk9 ht9)
                clear hk9 ht9
                go_wp2
                exact ⟨⟨j + 1, (q.name, 0) :: t, by omega, by go_num, by simp; omega, Lib.hid ⟨H9.out.2, ((HT3.out.2.trans (Kb.of_ext HXQ.out)).trans (Kb.of_ext ((Ext.refl _).drewN nq))).trans_new H9.out.1 (fun z hz => by simp at hz; subst hz; exact .inr HC2.out)⟩, HC⟩, by simp [intOf]; omega⟩
            have q3 : (q.form == 3) = false := by simpa using a3
            have HC : Hid (stepQ c (kindT (clksH c)) (clksH c) ms tick order t1 = stepQ c (kindT (clksH c)) (clksH c) ms tick (order.drop (j + 1)) ((q.name, 0) :: t) ∧ ∀ m, I64 (getV ((q.name, 0) :: t) m)) := Lib.hid ⟨by rw [HC0.out, defQ_4 _ _ _ _ _ _ a1 a2 a3], getV_64 HJ.out.2 _ (zero_64)⟩
            clear a1 a2 a3 hts3
            go_upto_region 23 with fail
            (refine region_drew_tail 8 (by kernel_rfl) (by kernel_rfl) ?_; simp only [List.take_succ_cons, List.take_zero, List.drop_succ_cons, List.drop_zero]; (repeat (go_big_quiet_step (fail))); refine wpQuiet_nil ?_; rintro _ ⟨nq, rfl⟩)
            obtain ⟨w9, hrun, hk9, ht9⟩ := ((HT3.out.1).next ((Ext.refl _).drewN nq)).put (nm := q.name) HOQ.out.name (by omega) (0)
            have H9 := Lib.hid (And.intro hk9 ht9)
            clear hk9 ht9
            go_wp2
            exact ⟨⟨j + 1, (q.name, 0) :: t, by omega, by go_num, by simp; omega, Lib.hid ⟨H9.out.2, ((HT3.out.2).trans (Kb.of_ext ((Ext.refl _).drewN nq))).trans_new H9.out.1 (fun z hz => by simp at hz; subst hz; exact .inr HC2.out)⟩, HC⟩, by simp [intOf]; omega⟩
        · have hji : ¬ (j : Int) < (no : Int) := fun e => hlt (Int.ofNat_lt.1 e)
          obtain rfl : no = j := by omega
          have HTK : Hid (tickC c (kindT (clksH c)) (clksH c) order ms tick r = t ∧ ∀ m, I64 (getV t m)) := Lib.hid ⟨by
            unfold tickC
            rw [HIN.out.1, ← HT1E.out, HJ.out.1, ← HOR.out.1.len, List.drop_length, stepQ], HJ.out.2⟩
          have hg3 := HS.out.1.rs.box.cells 3 _ rfl
          have hgl := HS.out.1.rs.box.lt
          obtain ⟨wq2, hwq2⟩ : ∃ z, z = wr := ⟨_, rfl⟩
          subst hwq2
          have HS3 := Lib.hid HS.out
          go_upto_region 26 with fail
          clear hg3 hgl
          go_loopw [139] (fun i wr => ∃ (k : Nat) (msk : MS), k ≤ n4 ∧ i = .int .i64 (k : Int) ∧ Hid (TS W0 ⟨.slice p1 n1 c1, .slice p2 n2 c2, .slice p3 n3 c3, .slice p4 n4 c4⟩ B K C2 MB n4 (clksH c) t msk tick wr ∧ Kb [B, MB] w wr) ∧ Hid ((∀ i, i < k → msk[i]? = (keepQ t c.eqs ms)[i]?) ∧ ∀ i, k ≤ i → msk[i]? = ms[i]?)) (fun i _ => n4 - (intOf i).toNat)
          case atStart => exact ⟨0, ms, Nat.zero_le _, rfl, HS3, Lib.hid ⟨fun i h => absurd h (Nat.not_lt_zero _), fun i _ => rfl⟩⟩
          case round =>
            obtain ⟨k, msk, hk, rfl, HS, HJ3⟩ := hrel
            by_cases hlt3 : k < n4
            · have hki : (k : Int) < (n4 : Int) := Int.ofNat_lt.2 hlt3
              have hxw := HS.out.1.rs.ext
              obtain ⟨q, hq⟩ : ∃ q, c.eqs[k]? = some q := ⟨_, List.getElem?_eq_getElem (by have := HN.out.2.2.2; omega)⟩
              obtain ⟨b, o, pk, ck, hpe, hkq, hcq, hbl⟩ := HE.out.at hq
              subst hpe
              obtain ⟨nk, hnk⟩ : ∃ n, n = q.e.kids.length := ⟨_, rfl⟩
              rw [← hnk] at hkq hcq
              have hjc : k < c4 := by omega
              have hbl2 := Nat.lt_of_lt_of_le hbl hxw.size
              have c0_ := hxw.cell (hcq 0 _ rfl)
              have c1_ := hxw.cell (hcq 1 _ rfl)
              have c2_ := hxw.cell (hcq 2 _ rfl)
              have c3_ := hxw.cell (hcq 3 _ rfl)
              have c4_ := hxw.cell (hcq 4 _ rfl)
              have c5_ := hxw.cell (hcq 5 _ rfl)
              have c6_ := hxw.cell (hcq 6 _ rfl)
              have c7_ := hxw.cell (hcq 7 _ rfl)
              have c8_ := hxw.cell (hcq 8 _ rfl)
              have c9_ := hxw.cell (hcq 9 _ rfl)
              have c10_ := hxw.cell (hcq 10 _ rfl)
              have c11_ := hxw.cell (hcq 11 _ rfl)
              have c12_ := hxw.cell (hcq 12 _ rfl)
              rw [Nat.add_zero] at c0_
              have HX := Lib.hid (And.intro hq (And.intro hkq hnk))
              have hxy : Ext wr (wr.alloc (.cells #[.int .i64 q.form, .string q.name, .int .i64 q.e.form, .int .i64 q.e.sub, .int .i64 q.e.kind, .int .i64 q.e.n, .string q.e.name, .slice pk nk ck, .int .i64 q.init, .string q.next, .string q.reset, .int .i64 q.period, .int .i64 q.offset] 35)) := (Ext.refl wr).alloc _
              have hby : BoxV wr.heap.size [.int .i64 q.form, .string q.name, .int .i64 q.e.form, .int .i64 q.e.sub, .int .i64 q.e.kind, .int .i64 q.e.n, .string q.e.name, .slice pk nk ck, .int .i64 q.init, .string q.next, .string q.reset, .int .i64 q.period, .int .i64 q.offset] (wr.alloc (.cells #[.int .i64 q.form, .string q.name, .int .i64 q.e.form, .int .i64 q.e.sub, .int .i64 q.e.kind, .int .i64 q.e.n, .string q.e.name, .slice pk nk ck, .int .i64 q.init, .string q.next, .string q.reset, .int .i64 q.period, .int .i64 q.offset] 35)) := BoxV.of_row (heap_alloc_last wr _)
              have HXY := Lib.hid hxy
              clear hq hkq hcq hbl hnk hxw
              go_upto_region 28 with fail
              generalize (wr.alloc (.cells #[.int .i64 q.form, .string q.name, .int .i64 q.e.form, .int .i64 q.e.sub, .int .i64 q.e.kind, .int .i64 q.e.n, .string q.e.name, .slice pk nk ck, .int .i64 q.init, .string q.next, .string q.reset, .int .i64 q.period, .int .i64 q.offset] 35)) = wy at hby hxy HXY ⊢
              generalize wr.heap.size = Y at hby ⊢
              have d0 := hby.cells 0 _ rfl
              have d1 := hby.cells 1 _ rfl
              have d2 := hby.cells 2 _ rfl
              have d3 := hby.cells 3 _ rfl
              have d4 := hby.cells 4 _ rfl
              have d5 := hby.cells 5 _ rfl
              have d6 := hby.cells 6 _ rfl
              have d7 := hby.cells 7 _ rfl
              have d8 := hby.cells 8 _ rfl
              have d9 := hby.cells 9 _ rfl
              have d10 := hby.cells 10 _ rfl
              have d11 := hby.cells 11 _ rfl
              have d12 := hby.cells 12 _ rfl
              have hyl := hby.lt
              clear hby hxy hbl2 c0_ c1_ c2_ c3_ c4_ c5_ c6_ c7_ c8_ c9_ c10_ c11_ c12_
              have HOQ := Lib.hid (HG.out.ok.eqs q (List.mem_of_getElem? HX.out.1))
              have hts2 := HS.out.1.next HXY.out
              have HT2 := Lib.hid (And.intro hts2 (HS.out.2.trans (Kb.of_ext HXY.out)))
              obtain ⟨mo, hmo⟩ : ∃ z, ms[k]? = some z := ⟨_, List.getElem?_eq_getElem (by rw [HTS.out.len]; exact hlt3)⟩
              have hmsk : msk[k]? = some mo := by rw [HJ3.out.2 k (Nat.le_refl _)]; exact hmo
              have hkq := keepQ_get t c.eqs ms k q mo HX.out.1 hmo
              have HSKIP : Hid (kmQ t q mo = mo → (∀ i, i < k + 1 → msk[i]? = (keepQ t c.eqs ms)[i]?) ∧ ∀ i, k + 1 ≤ i → msk[i]? = ms[i]?) := Lib.hid (fun e => ⟨fun i hi => by
                by_cases h : i = k
                · subst h; rw [hmsk, hkq, e]
                · exact HJ3.out.1 i (by omega), fun i hi => HJ3.out.2 i (by omega)⟩)
              have HSET : Hid ((∀ i, i < k + 1 → (msk.set k (kmQ t q mo))[i]? = (keepQ t c.eqs ms)[i]?) ∧ ∀ i, k + 1 ≤ i → (msk.set k (kmQ t q mo))[i]? = ms[i]?) := Lib.hid ⟨fun i hi => by
                by_cases h : i = k
                · subst h; rw [List.getElem?_set_self (List.getElem?_eq_some_iff.1 hmsk).1, hkq]
                · rw [List.getElem?_set_ne (Ne.symm h)]; exact HJ3.out.1 i (by omega), fun i hi => by rw [List.getElem?_set_ne (by omega)]; exact HJ3.out.2 i (by omega)⟩
              have g5 := hts2.rs.box.cells 5 _ rfl
              have g6 := hts2.rs.box.cells 6 _ rfl
              have gl := hts2.rs.box.lt
              have lk0 := fun n' : Nat => (hts2.rs.next ((Ext.refl wy).drewN n')).look HOQ.out.name
              obtain ⟨th, hth⟩ : ∃ z, z = hasR t q.name := ⟨_, rfl⟩
              obtain ⟨gvn, hgvn⟩ : ∃ z, z = getV t q.name := ⟨_, rfl⟩
              rw [← hth, ← hgvn] at lk0
              have HTH := Lib.hid hth
              have HMK := Lib.hid hmsk
              clear hmo hmsk hkq hgvn hth hts2
              by_cases a2 : q.form = 2
              · have q2 : (q.form == 2) = true := by simpa using a2
                cases th with
                | false =>
                  have HC := Lib.hid (HSKIP.out (by unfold kmQ; rw [← HTH.out]; simp))
                  clear a2
                  (refine region_drew (by kernel_rfl) (by kernel_rfl) ?_; (repeat (go_big_quiet_step (fail))); refine wpQuiet_nil ?_; rintro _ ⟨nq, rfl⟩)
                  go_wp2
                  exact ⟨⟨k + 1, msk, by omega, by go_num, Lib.hid ⟨HT2.out.1.next ((Ext.refl wy).drewN _), HT2.out.2.trans (Kb.of_ext ((Ext.refl wy).drewN _))⟩, HC⟩, by simp [intOf]; omega⟩
                | true =>
                  have HKM := Lib.hid (kmQ_yes (m := mo) a2 HTH.out.symm)
                  clear a2
                  (refine region_drew (by kernel_rfl) (by kernel_rfl) ?_; (repeat (go_big_quiet_step (fail))); refine wpQuiet_nil ?_; rintro _ ⟨nq, rfl⟩)
                  have hxq : Ext wy (wy.drewN nq) := (Ext.refl wy).drewN nq
                  have d9 := hxq.cell d9
                  have hyl := Nat.lt_of_lt_of_le hyl hxq.size
                  have HT4 := Lib.hid (And.intro (HT2.out.1.next hxq) (HT2.out.2.trans (Kb.of_ext hxq)))
                  clear lk0 g5 g6 gl d0 d1 d2 d3 d4 d5 d6 d7 d8 d10 d11 d12
                  generalize wy.drewN nq = w4 at hxq d9 hyl HT4 ⊢
                  clear hxq
                  have g5 := HT4.out.1.rs.box.cells 5 _ rfl
                  have g6 := HT4.out.1.rs.box.cells 6 _ rfl
                  have gl := HT4.out.1.rs.box.lt
                  have lk1 := fun n' : Nat => (HT4.out.1.rs.next ((Ext.refl w4).drewN n')).look HOQ.out.next
                  rw [← HKM.out.1, ← HKM.out.2] at lk1
                  obtain ⟨gn, hgn⟩ : ∃ z, z = (kmQ t q mo).getD 0 := ⟨_, rfl⟩
                  obtain ⟨hn, hhn⟩ : ∃ z, z = (kmQ t q mo).isSome := ⟨_, rfl⟩
                  rw [← hgn, ← hhn] at lk1
                  have HGN := Lib.hid (And.intro hgn hhn)
                  clear hgn hhn
                  go_upto_region 29 with fail
                  (refine region_drew_tail 13 (by kernel_rfl) (by kernel_rfl) ?_; simp only [List.take_succ_cons, List.take_zero, List.drop_succ_cons, List.drop_zero]; (repeat (go_big_quiet_step (fail))); refine wpQuiet_nil ?_; rintro _ ⟨nq, rfl⟩)
                  have hxq : Ext w4 (w4.drewN nq) := (Ext.refl w4).drewN nq
                  have HT5 := Lib.hid (And.intro (HT4.out.1.next hxq) (HT4.out.2.trans (Kb.of_ext hxq)))
                  clear d9 hyl g5 g6 gl lk1
                  generalize w4.drewN nq = w5 at HT5 ⊢
                  have hm := HT5.out.1.mcell HMK.out
                  have hm1 := hm.1
                  have hm2 := hm.2
                  have hmf : ∀ o : Nat, w5.frozen? ⟨MB, o, none⟩ = false := fun o => frozen_of_row _ _ _ _ _ HT5.out.1.mem
                  have hml := HT5.out.1.mlt
                  clear hm
                  go_wp2
                  have hset := HT5.out.1.setM hlt3 (kmQ t q mo)
                  rw [← HGN.out.1, ← HGN.out.2] at hset
                  exact ⟨⟨k + 1, msk.set k (kmQ t q mo), by omega, by go_num, Lib.hid ⟨hset.1, HT5.out.2.trans (hset.2.mono (by simp))⟩, HSET⟩, by simp [intOf]; omega⟩
              · have q2 : (q.form == 2) = false := by simpa using a2
                have HC := Lib.hid (HSKIP.out (by unfold kmQ; rw [if_neg (fun e => a2 e.1)]))
                clear a2
                (refine region_drew (by kernel_rfl) (by kernel_rfl) ?_; (repeat (go_big_quiet_step (fail))); refine wpQuiet_nil ?_; rintro _ ⟨nq, rfl⟩)
                go_wp2
                exact ⟨⟨k + 1, msk, by omega, by go_num, Lib.hid ⟨HT2.out.1.next ((Ext.refl wy).drewN _), HT2.out.2.trans (Kb.of_ext ((Ext.refl wy).drewN _))⟩, HC⟩, by simp [intOf]; omega⟩
            · have hki : ¬ (k : Int) < (n4 : Int) := fun e => hlt3 (Int.ofNat_lt.1 e)
              obtain rfl : n4 = k := by omega
              have HKP : Hid (msk = keepQ t c.eqs ms) := Lib.hid (by
                apply List.ext_getElem?
                intro i
                by_cases hi : i < n4
                · exact HJ3.out.1 i hi
                · have h1 := keepQ_len t c.eqs ms (by rw [HTS.out.len, HN.out.2.2.2])
                  rw [List.getElem?_eq_none (by rw [HS.out.1.len]; omega), List.getElem?_eq_none (by rw [h1, ← HN.out.2.2.2]; omega)])
              have hg7 := HS.out.1.rs.box.cells 7 _ rfl
              have hg1 := HS.out.1.rs.box.cells 1 _ rfl
              have hgf := HS.out.1.rs.box.fz 7
              have hgl := HS.out.1.rs.box.lt
              go_upto_region 33 with fail
              obtain ⟨hst7, hk7⟩ := HS.out.1.setT (tick + 1)
              have HT7 : Hid (TS W0 ⟨.slice p1 n1 c1, .slice p2 n2 c2, .slice p3 n3 c3, .slice p4 n4 c4⟩ B K C2 MB n4 (clksH c) t msk (tick + 1) (wr.setCell ⟨B, 7, none⟩ (.int .i64 (tick + 1))) ∧ Kb [B, MB] w (wr.setCell ⟨B, 7, none⟩ (.int .i64 (tick + 1)))) := Lib.hid ⟨hst7, HS.out.2.trans (hk7.mono (by simp))⟩
              clear hst7 hk7 hg7 hg1 hgf hgl
              generalize wr.setCell ⟨B, 7, none⟩ (.int .i64 (tick + 1)) = w7 at HT7 ⊢
              have hg1 := HT7.out.1.rs.box.cells 1 _ rfl
              have hgl := HT7.out.1.rs.box.lt
              go_upto_region 34 with fail
              clear hg1 hgl
              go_loopw [17, 184] (fun ov i wr => ∃ (k : Nat) (pa : Option Addr) (pc : Nat), k ≤ n2 ∧ i = .int .i64 (k : Int) ∧ ov = .slice pa k pc ∧ Hid (TS W0 ⟨.slice p1 n1 c1, .slice p2 n2 c2, .slice p3 n3 c3, .slice p4 n4 c4⟩ B K C2 MB n4 (clksH c) t msk (tick + 1) wr ∧ Kb [B, MB] w wr) ∧ Hid (wr.ownsRow w.heap.size 3 1 (.slice pa k pc) k (i64s ((c.outs.take k).map fun v => getV t v.name)) ∧ ∀ b, (Value.slice pa k pc).ownBlock = some b → b ≠ C2)) (fun _ i _ => n2 - (intOf i).toNat)
              case atStart => exact ⟨0, none, 0, Nat.zero_le _, rfl, rfl, HT7, Lib.hid ⟨own_nil _ _ _ _, fun b hb => by simp [Value.ownBlock] at hb⟩⟩
              case round =>
                obtain ⟨k, pa, pc, hk, rfl, rfl, HS, HO⟩ := hrel
                by_cases hlt4 : k < n2
                · have hki : (k : Int) < (n2 : Int) := Int.ofNat_lt.2 hlt4
                  have hlt := hlt4
                  have HV := H2
                  have hxl := HS.out.1.rs.ext
                  obtain ⟨v, hv⟩ : ∃ v, (c.outs)[k]? = some v := ⟨_, List.getElem?_eq_getElem (by rw [← HN.out.2.1]; exact hlt)⟩
                  obtain ⟨bv_, ov_, pq, cq, hpe, hqv, v0_, v1_, v2_, hev, hvl⟩ := (HV.out.ext hxl).at hv
                  subst hpe
                  obtain ⟨mq, hnq⟩ : ∃ n, n = v.clk.length := ⟨_, rfl⟩
                  rw [← hnq] at v2_ hev hqv
                  have hjv : k < c2 := by omega
                  have HVV := Lib.hid (And.intro hv (And.intro hev (And.intro hnq hqv)))
                  have hxy : Ext wr (wr.alloc (.cells #[.string v.name, .int .i64 v.kind, .slice pq mq cq] 30)) := (Ext.refl wr).alloc _
                  have hby : BoxV wr.heap.size [.string v.name, .int .i64 v.kind, .slice pq mq cq] (wr.alloc (.cells #[.string v.name, .int .i64 v.kind, .slice pq mq cq] 30)) := BoxV.of_row (heap_alloc_last wr _)
                  have HXY := Lib.hid hxy
                  clear hv hev hnq hqv
                  go_upto_region 36 with fail
                  have HYW0 : Hid (∀ z, z < wr.heap.size → z ≠ wr.heap.size) := Lib.hid (fun z h => by omega)
                  generalize (wr.alloc (.cells #[.string v.name, .int .i64 v.kind, .slice pq mq cq] 30)) = wy at hby hxy HXY ⊢
                  obtain ⟨Y, hYY⟩ : ∃ z, z = wr.heap.size := ⟨_, rfl⟩
                  have HYW : Hid (wr.heap.size ≤ Y) := Lib.hid (by omega)
                  rw [← hYY] at hby ⊢
                  clear hYY HYW0
                  have d0 := hby.cells 0 _ rfl
                  have d1 := hby.cells 1 _ rfl
                  have d2 := hby.cells 2 _ rfl
                  have hyl := hby.lt
                  clear hby hxy v0_ v1_ v2_ hvl
                  have hts2 := HS.out.1.next HXY.out
                  have HVN : Hid (v.name.size ≤ maxLen) := Lib.hid (HG.out.ok.outs v (List.mem_of_getElem? HVV.out.1)).name
                  have hlk0 := hts2.rs.look HVN.out
                  obtain ⟨gv, hgv⟩ : ∃ z, z = getV t v.name := ⟨_, rfl⟩
                  obtain ⟨th, hth⟩ : ∃ z, z = hasR t v.name := ⟨_, rfl⟩
                  rw [← hgv, ← hth] at hlk0
                  have HLKK : Hid (∀ w', TS W0 ⟨.slice p1 n1 c1, .slice (some ⟨bv_, ov_, none⟩) n2 c2, .slice p3 n3 c3, .slice p4 n4 c4⟩ B K C2 MB n4 (clksH c) t msk (tick + 1) w' → (Instr.lookup 70 (.map (some C2)) (.string v.name) false).run Try.prog w' = .ok (.agg #[.int .i64 gv, .bool th]) w') := Lib.hid (fun w' h => by rw [hgv, hth]; exact h.rs.look HVN.out)
                  have HGV := Lib.hid hgv
                  have g5 := hts2.rs.box.cells 5 _ rfl
                  have HT2 := Lib.hid (And.intro hts2 (HS.out.2.trans (Kb.of_ext HXY.out)))
                  have how := ownsRow_ext HO.out.1 HXY.out
                  have HOW := Lib.hid how
                  clear hts2 hgv hth how
                  refine wp_region_noPanic ?_
                  refine hd_begin (S := fun w' => w'.cell? ⟨B, 5, none⟩ = some (.map (some C2)) ∧ w'.cell? ⟨Y, 0, none⟩ = some (.string v.name) ∧ (Instr.lookup 70 (.map (some C2)) (.string v.name) false).run Try.prog w' = .ok (.agg #[.int .i64 gv, .bool th]) w') 11 (by kernel_rfl) (by kernel_rfl) ⟨(Ext.refl wy).drew.cell g5, (Ext.refl wy).drew.cell d0, HLKK.out _ (HT2.out.1.next (Ext.refl wy).drew)⟩ (fun hHeld => ?_)
                  have hxd : Ext wy wy.drew := (Ext.refl wy).drew
                  generalize wy.drew = wd at hxd hHeld ⊢
                  refine hd_take (i := 0) (v := .slice pa k pc) rfl (by kernel_rfl) (by kernel_rfl) (fun _ _ _ h => h) (Or.inl ⟨by rfl, fun w' hSw => by ((try dsimp only at hSw); go_simp)⟩) hHeld ?_
                  try simp only [Act.put, List.setIfInBounds_toArray, List.set_cons_zero, List.set_cons_succ]
                  refine hd_take (i := 1) (v := .pointer (some ⟨B, 0, none⟩)) rfl (by kernel_rfl) (by kernel_rfl) (fun _ _ _ h => h) (Or.inl ⟨by rfl, fun w' hSw => by ((try dsimp only at hSw); go_simp)⟩) hHeld ?_
                  try simp only [Act.put, List.setIfInBounds_toArray, List.set_cons_zero, List.set_cons_succ]
                  refine hd_take (i := 2) (v := .pointer (some ⟨B, 0, none⟩)) rfl (by kernel_rfl) (by kernel_rfl) (fun _ _ _ h => h) (Or.inl ⟨by rfl, fun w' hSw => by ((try dsimp only at hSw); go_simp)⟩) hHeld ?_
                  try simp only [Act.put, List.setIfInBounds_toArray, List.set_cons_zero, List.set_cons_succ]
                  refine hd_take (i := 3) (v := .pointer (some ⟨B, 5, none⟩)) rfl (by kernel_rfl) (by kernel_rfl) (fun _ _ _ h => h) (Or.inl ⟨by rfl, fun w' hSw => by ((try dsimp only at hSw); go_simp)⟩) hHeld ?_
                  try simp only [Act.put, List.setIfInBounds_toArray, List.set_cons_zero, List.set_cons_succ]
                  refine hd_take (i := 4) (v := .map (some C2)) rfl (by kernel_rfl) (by kernel_rfl) (fun _ _ _ h => h) (Or.inl ⟨by rfl, fun w' hSw => by ((try dsimp only at hSw); go_simp)⟩) hHeld ?_
                  try simp only [Act.put, List.setIfInBounds_toArray, List.set_cons_zero, List.set_cons_succ]
                  refine hd_take (i := 5) (v := .pointer (some ⟨Y, 0, none⟩)) rfl (by kernel_rfl) (by kernel_rfl) (fun _ _ _ h => h) (Or.inl ⟨by rfl, fun w' hSw => by ((try dsimp only at hSw); go_simp)⟩) hHeld ?_
                  try simp only [Act.put, List.setIfInBounds_toArray, List.set_cons_zero, List.set_cons_succ]
                  refine hd_take (i := 6) (v := .string v.name) rfl (by kernel_rfl) (by kernel_rfl) (fun _ _ _ h => h) (Or.inl ⟨by rfl, fun w' hSw => by ((try dsimp only at hSw); go_simp)⟩) hHeld ?_
                  try simp only [Act.put, List.setIfInBounds_toArray, List.set_cons_zero, List.set_cons_succ]
                  refine hd_take (i := 7) (v := .agg #[.int .i64 gv, .bool th]) rfl (by kernel_rfl) (by kernel_rfl) (fun _ _ _ h => h) (Or.inl ⟨by rfl, fun w' hSw => by ((try dsimp only at hSw); go_simp)⟩) hHeld ?_
                  try simp only [Act.put, List.setIfInBounds_toArray, List.set_cons_zero, List.set_cons_succ]
                  refine hd_take (i := 8) (v := .int .i64 gv) rfl (by kernel_rfl) (by kernel_rfl) (fun _ _ _ h => h) (Or.inl ⟨by rfl, fun w' hSw => by ((try dsimp only at hSw); go_simp)⟩) hHeld ?_
                  try simp only [Act.put, List.setIfInBounds_toArray, List.set_cons_zero, List.set_cons_succ]
                  refine hd_one (i := 9) rfl (by kernel_rfl) (by decide) (fun KA hK => ?_)
                  go_simp
                  have hxn : Ext wd (wd.alloc (.cells #[.int .i64 gv] 3)) := (Ext.refl wd).alloc _
                  have hsn : SlC (wd.alloc (.cells #[.int .i64 gv] 3)) (.slice (some ⟨wd.heap.size, 0, none⟩) 1 1) 1 [.int .i64 gv] := SlC.fresh wd #[.int .i64 gv] _ 1 _ rfl (by decide)
                  refine hK.out _ _ ⟨hxn.cell hHeld.1, hxn.cell hHeld.2.1, HLKK.out _ (HT2.out.1.next (hxd.trans hxn))⟩ (fun hHeld => ?_)
                  clear hK KA
                  try simp only [Act.put, List.setIfInBounds_toArray, List.set_cons_zero, List.set_cons_succ]
                  have HXN := Lib.hid (hxd.trans hxn)
                  generalize (wd.alloc (.cells #[.int .i64 gv] 3)) = wn at hxn hsn HXN hHeld ⊢
                  generalize wd.heap.size = N at hsn ⊢
                  have hon := ownsRow_ext HOW.out HXN.out
                  have htn := HT2.out.1.next HXN.out
                  have hkn := HT2.out.2.trans (Kb.of_ext HXN.out)
                  refine hd_one (i := 10) rfl (by kernel_rfl) (by decide) (fun KA hK => ?_)
                  refine step_append_slc _ rfl (.tmp 188) (.tmp 197) 36 rfl w.heap.size 3 (.int .i64 0) 1 8 Try.underlying36 infoInt rfl (by decide) (.slice pa k pc) k (i64s ((c.outs.take k).map fun v => getV t v.name)) rfl hon _ 1 [.int .i64 gv] rfl hsn rfl (by simp [Value.oneCell']) (by unfold maxLen; omega) (by omega) hkn.size ?_
                  intro v3 w6 hown3 hg3 hat3
                  obtain ⟨x9, z9, rfl⟩ := own_n hown3
                  have hk6 : Kb (Value.ownBlock (.slice pa k pc)).toList wn w6 := Kb.grown hg3 (fun g hg => Option.mem_toList.2 hg)
                  have hbs := HTS.out.box.lt
                  have hks := HTS.out.mp.lt
                  have hms := HTS.out.mlt
                  have hw0 := HTS.out.ext.size
                  have ht6 : TS W0 ⟨.slice p1 n1 c1, .slice (some ⟨bv_, ov_, none⟩) n2 c2, .slice p3 n3 c3, .slice p4 n4 c4⟩ B K C2 MB n4 (clksH c) t msk (tick + 1) w6 := htn.kb hk6 (fun z hz => Nat.le_trans hw0 (hon.lt z (Option.mem_toList.1 hz)).1) (fun z hz => by
                    have h1 := (hon.lt z (Option.mem_toList.1 hz)).1
                    have h2 := HO.out.2 z (Option.mem_toList.1 hz)
                    exact ⟨by omega, by omega, h2, by omega⟩)
                  have hy6 : w6.cell? ⟨Y, 0, none⟩ = some (.string v.name) := hk6.cell (fun e => by
                    have h1 := (HO.out.1.lt Y (Option.mem_toList.1 e)).2
                    have h3 := HYW.out
                    omega) hHeld.2.1
                  refine hK.out _ _ ⟨ht6.rs.box.cells 5 _ rfl, hy6, HLKK.out _ ht6⟩ (fun hHeld => ?_)
                  clear hK KA
                  try simp only [Act.put, List.setIfInBounds_toArray, List.set_cons_zero, List.set_cons_succ]
                  refine hd_end (by kernel_rfl) ?_
                  simp only [List.drop_succ_cons, List.drop_zero]
                  have HF6 : Hid (TS W0 ⟨.slice p1 n1 c1, .slice (some ⟨bv_, ov_, none⟩) n2 c2, .slice p3 n3 c3, .slice p4 n4 c4⟩ B K C2 MB n4 (clksH c) t msk (tick + 1) w6 ∧ Kb [B, MB] w w6) := Lib.hid ⟨ht6, hkn.trans_new hk6 (fun z hz => .inr (hon.lt z (Option.mem_toList.1 hz)).1)⟩
                  have HO6 : Hid (w6.ownsRow w.heap.size 3 1 (.slice x9 (k + 1) z9) (k + 1) (i64s ((c.outs.take (k + 1)).map fun v => getV t v.name)) ∧ ∀ b, (Value.slice x9 (k + 1) z9).ownBlock = some b → b ≠ C2) := Lib.hid ⟨by
                    obtain ⟨h1, h2⟩ := List.getElem?_eq_some_iff.1 HVV.out.1
                    rw [List.take_succ_eq_append_getElem h1, h2, List.map_append, show ∀ a b : List Int, i64s (a ++ b) = i64s a ++ i64s b by simp [i64s]]
                    have h3 := hown3
                    rw [HGV.out] at h3
                    exact h3, fun b hb => by
                    rcases hat3 with e | e
                    · exact HO.out.2 b (e ▸ hb)
                    · rw [e] at hb
                      have h1 := htn.rs.cm.lt
                      simp at hb
                      omega⟩
                  clear hHeld hk6 ht6 hy6 hon htn hkn hown3 hg3 hat3 hsn hxn hxd hbs hks hms hw0
                  go_wp2_with fail
                  refine NoPanic.normal ?_
                  go_wp2
                  exact ⟨⟨k + 1, x9, z9, by omega, by go_num, rfl, HF6, HO6⟩, by simp [intOf]; omega⟩
                · have hki : ¬ (k : Int) < (n2 : Int) := fun e => hlt4 (Int.ofNat_lt.1 e)
                  obtain rfl : n2 = k := by omega
                  go_wp2
                  try go_ret
                  rw [HQ.out]
                  have h8 := HS.out.1
                  rw [HKP.out, ← HTK.out.1] at h8
                  have h9 := HO.out.1
                  rw [HN.out.2.1, List.take_length, ← HN.out.2.1, ← HTK.out.1] at h9
                  refine ⟨pa, pc, C2, by rw [← HN.out.2.1], Lib.hid ⟨h8, HS.out.2, ?_, HC2.out, by rw [HTK.out.1]; exact HTK.out.2⟩⟩
                  rw [← HN.out.2.1]
                  exact h9
end Go.Proofs.Ytmommjagndadjaa

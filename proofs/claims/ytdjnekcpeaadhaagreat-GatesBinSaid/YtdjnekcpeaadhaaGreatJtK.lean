/-
  The maker's walks: the table of operations.
  No condition.
  The maker's walks: any operation of the table.
  Condition: the maker and the lists lie in memory.
  The maker's walks: casts.
  Condition: the maker and the lists lie in memory.
  How many wires an operation has: plain.
  No condition.
  The walk of Op: the net of an operation.
  Condition: what Kind tells.
  The walk of Cast: the net of a cast.
  No condition.
  A net that a walk has made, as nets that the reference reads.
  No condition.
  The walk of alive.
  Condition: what Kind tells.
  What Kind tells.
  No condition.
-/
import Derived.Test.YtdjnekcpeaadhaaGreatJtH
import Derived.Test.YtdjnekcpeaadhaaGreatJtI
import Derived.Test.YtdjnekcpeaadhaaGreatJtB
namespace Go.Proofs.YtdjnekcpeaadhaaGreat
open Go.RowKit Go.Maps
set_option linter.unusedSimpArgs false
set_option linter.unusedVariables false
set_option maxRecDepth 100000

def opCells : Array Value := #[.nilFunc, .func (.func 45) #[] #[], .func (.func 46) #[] #[], .func (.func 47) #[] #[], .func (.func 48) #[] #[], .func (.func 49) #[] #[], .func (.func 50) #[] #[], .func (.func 51) #[] #[], .func (.func 52) #[] #[], .func (.func 53) #[] #[], .func (.func 54) #[] #[], .func (.func 55) #[] #[], .func (.func 56) #[] #[], .func (.func 57) #[] #[], .func (.func 58) #[] #[], .func (.func 59) #[] #[], .func (.func 60) #[] #[], .func (.func 61) #[] #[], .func (.func 62) #[] #[], .func (.func 63) #[] #[]]
set_option maxHeartbeats 2000000 in
theorem gdoes_any (w : World) :
    Calls Tryz.prog 37 #[] w fun e w' => e = .returned (.agg opCells) ∧ Ext w w' := by
  go_enter Tryz.func37, Tryz.ntmps37
  go_upto_region 1 with fail
  go_wp2_with (refine wpList_store_last rfl 68 (.tmp 0) (.tmp 1) rfl _ opCells _ _ rfl rfl rfl (by kernel_rfl) (by kernel_rfl) (by kernel_rfl) ?_)
  exact bodyPost_ret (v := .agg opCells) (results_cell_row rfl _ _ _ _ _ _ _ rfl (heap_alloc_last _ _) Tryz.underlying68 rfl (by kernel_rfl)) rfl ⟨rfl, (Ext.refl _).alloc _⟩
end Go.Proofs.YtdjnekcpeaadhaaGreat
namespace Go.Proofs.YtdjnekcpeaadhaaGreat
open Go.RowKit Go.Maps
set_option linter.unusedSimpArgs false
set_option linter.unusedVariables false
set_option maxRecDepth 100000

def opFn (n : Nat) : FuncId := match n with | 1 => 45 | 2 => 46 | 3 => 47 | 4 => 48 | 5 => 49 | 6 => 50 | 7 => 51 | 8 => 52 | 9 => 53 | 10 => 54 | 11 => 55 | 12 => 56 | 13 => 57 | 14 => 58 | 15 => 59 | 16 => 60 | 17 => 61 | 18 => 62 | 19 => 63 | _ => 0
theorem opFn_at {n : Nat} (h : 1 ≤ n ∧ n ≤ 19) : opCells[n]? = some (.func (.func (opFn n)) #[] #[]) := by
  rcases (show n = 1 ∨ n = 2 ∨ n = 3 ∨ n = 4 ∨ n = 5 ∨ n = 6 ∨ n = 7 ∨ n = 8 ∨ n = 9 ∨ n = 10 ∨ n = 11 ∨ n = 12 ∨ n = 13 ∨ n = 14 ∨ n = 15 ∨ n = 16 ∨ n = 17 ∨ n = 18 ∨ n = 19 by omega) with rfl | rfl | rfl | rfl | rfl | rfl | rfl | rfl | rfl | rfl | rfl | rfl | rfl | rfl | rfl | rfl | rfl | rfl | rfl <;> rfl
theorem opFn_enter {n : Nat} (h : 1 ≤ n ∧ n ≤ 19) (args : Array Value) (w : World) : Sem.run Tryz.prog (callFunc (opFn n) args) w = .ok (.enter (opFn n) args) w := by
  rcases (show n = 1 ∨ n = 2 ∨ n = 3 ∨ n = 4 ∨ n = 5 ∨ n = 6 ∨ n = 7 ∨ n = 8 ∨ n = 9 ∨ n = 10 ∨ n = 11 ∨ n = 12 ∨ n = 13 ∨ n = 14 ∨ n = 15 ∨ n = 16 ∨ n = 17 ∨ n = 18 ∨ n = 19 by omega) with rfl | rfl | rfl | rfl | rfl | rfl | rfl | rfl | rfl | rfl | rfl | rfl | rfl | rfl | rfl | rfl | rfl | rfl | rfl <;> kernel_rfl
theorem opFn_index {n : Nat} (h : 1 ≤ n ∧ n ≤ 19) (w : World) : Sem.run Tryz.prog (Instr.index 68 (.agg opCells) (.int .i64 (n : Int))) w = .ok (.func (.func (opFn n)) #[] #[]) w := by
  rcases (show n = 1 ∨ n = 2 ∨ n = 3 ∨ n = 4 ∨ n = 5 ∨ n = 6 ∨ n = 7 ∨ n = 8 ∨ n = 9 ∨ n = 10 ∨ n = 11 ∨ n = 12 ∨ n = 13 ∨ n = 14 ∨ n = 15 ∨ n = 16 ∨ n = 17 ∨ n = 18 ∨ n = 19 by omega) with rfl | rfl | rfl | rfl | rfl | rfl | rfl | rfl | rfl | rfl | rfl | rfl | rfl | rfl | rfl | rfl | rfl | rfl | rfl <;> kernel_rfl
/-- The wires of an operation. -/
def opF (n : Nat) (sg : Bool) (s : BSt) (a b : List Nat) : BL := match n with | 1 => invF s a | 2 => negF s a | 3 => addF s a b | 4 => subF s a b | 5 => mulF s a b | 6 => divF sg s a b | 7 => modF sg s a b | 8 => bandF s a b | 9 => borF s a b | 10 => bxorF s a b | 11 => impF s a b | 12 => shlF s a b | 13 => shrF sg s a b | 14 => eqF s a b | 15 => neF s a b | 16 => ltF sg s a b | 17 => leF sg s a b | 18 => gtF sg s a b | 19 => geF sg s a b | _ => (s, [])
theorem op_any {W w : World} {N M : Nat} {gv va vb : Value} {sg : Bool} {s : BSt} {a b : List Nat} {n : Nat} (h : GB W N M gv s w) (ha : WL (Bs N M gv) w va a) (hb : WL (Bs N M gv) w vb b) (hwa : WsB a) (hwb : WsB b) (h19 : 1 ≤ n ∧ n ≤ 19) (hl : 3 ≤ n → b.length = a.length) (hna : a.length ≤ 64) (h0 : 0 < a.length) :
    Calls Tryz.prog (opFn n) #[.agg #[.pointer (some ⟨N, 0, none⟩), va, vb, .bool sg]] w (RetL W N M gv (opF n sg s a b) w) := by
  have hn : a.length ≤ 10000 := by omega
  rcases (show n = 1 ∨ n = 2 ∨ n = 3 ∨ n = 4 ∨ n = 5 ∨ n = 6 ∨ n = 7 ∨ n = 8 ∨ n = 9 ∨ n = 10 ∨ n = 11 ∨ n = 12 ∨ n = 13 ∨ n = 14 ∨ n = 15 ∨ n = 16 ∨ n = 17 ∨ n = 18 ∨ n = 19 by omega) with rfl | rfl | rfl | rfl | rfl | rfl | rfl | rfl | rfl | rfl | rfl | rfl | rfl | rfl | rfl | rfl | rfl | rfl | rfl
  · exact vinv_any W w N M gv va vb sg s a b h ha hb hwa hwb hn
  · exact vopp_any W w N M gv va vb sg s a b h ha hb hwa hwb hn
  · exact vadd_any W w N M gv va vb sg s a b h ha hb hwa hwb hn (hl (by omega))
  · exact vsub_any W w N M gv va vb sg s a b h ha hb hwa hwb hn (hl (by omega))
  · exact vmul_any W w N M gv va vb sg s a b h ha hb hwa hwb hn (hl (by omega)) hna h0
  · exact vdiv_any W w N M gv va vb sg s a b h ha hb hwa hwb (hl (by omega)) hna h0
  · exact vmod_any W w N M gv va vb sg s a b h ha hb hwa hwb (hl (by omega)) hna h0
  · exact vand_any W w N M gv va vb sg s a b h ha hb hwa hwb hn (hl (by omega))
  · exact vor_any W w N M gv va vb sg s a b h ha hb hwa hwb hn (hl (by omega))
  · exact vxor_any W w N M gv va vb sg s a b h ha hb hwa hwb hn (hl (by omega))
  · exact vimp_any W w N M gv va vb sg s a b h ha hb hwa hwb hn (hl (by omega)) h0
  · exact vshl_any W w N M gv va vb sg s a b h ha hb hwa hwb hn (hl (by omega)) hna h0
  · cases sg
    · exact vshrU_any W w N M gv va vb s a b h ha hb hwa hwb hn (hl (by omega)) hna h0
    · exact vshrS_any W w N M gv va vb s a b h ha hb hwa hwb hn (hl (by omega)) hna h0
  · exact veq_any W w N M gv va vb sg s a b h ha hb hwa hwb hn (hl (by omega))
  · exact vne_any W w N M gv va vb sg s a b h ha hb hwa hwb hn (hl (by omega))
  · exact vlt_any W w N M gv va vb sg s a b h ha hb hwa hwb hn (hl (by omega)) h0
  · exact vle_any W w N M gv va vb sg s a b h ha hb hwa hwb hn (hl (by omega)) h0
  · exact vgt_any W w N M gv va vb sg s a b h ha hb hwa hwb hn (hl (by omega)) h0
  · exact vge_any W w N M gv va vb sg s a b h ha hb hwa hwb hn (hl (by omega)) h0

set_option maxHeartbeats 4000000 in
theorem do_any (W w : World) (N M : Nat) (gv va vb : Value) (k : Int) (s : BSt) (a b : List Nat) (n : Nat) (h : GB W N M gv s w) (ha : WL (Bs N M gv) w va a) (hb : WL (Bs N M gv) w vb b) (hwa : WsB a) (hwb : WsB b) (h19 : 1 ≤ n ∧ n ≤ 19) (hl : 3 ≤ n → b.length = a.length) (hna : a.length ≤ 64) (h0 : 0 < a.length) :
    Calls Tryz.prog 27 #[.pointer (some ⟨N, 0, none⟩), .int .i64 (n : Int), .int .i64 k, va, vb] w (RetL W N M gv (opF n (decide (2 ≤ k) && decide (k ≤ 5)) s a b) w) := by
  obtain ⟨R, hR⟩ : ∃ R, R = opF n (decide (2 ≤ k) && decide (k ≤ 5)) s a b := ⟨_, rfl⟩
  rw [← hR]
  obtain ⟨Q, hQ⟩ : ∃ Q, Q = RetL W N M gv R w := ⟨_, rfl⟩
  rw [← hQ]
  have HQ := Lib.hid hQ
  obtain ⟨pa, ca, rfl, -, -, -⟩ := id ha.1
  obtain ⟨pb, cb, rfl, -, -, -⟩ := id hb.1
  have HC : Hid (∀ w1, Ext w w1 → Calls Tryz.prog (opFn n) #[.agg #[.pointer (some ⟨N, 0, none⟩), .slice pa a.length ca, .slice pb b.length cb, .bool (decide (2 ≤ k) && decide (k ≤ 5))]] w1 (RetL W N M gv R w1)) := Lib.hid (fun w1 hx => by rw [hR]; exact op_any (h.next hx) (ha.ext hx) (hb.ext hx) hwa hwb h19 hl hna h0)
  have HS := Lib.hid (signedG_any k)
  have hix := @opFn_index n h19
  have hcf := @opFn_enter n h19
  have hn0 : (0 : Int) ≤ (n : Int) := by omega
  have hn1 : (n : Int) < 20 := by omega
  obtain ⟨sg, hsg⟩ : ∃ sg, sg = (decide (2 ≤ k) && decide (k ≤ 5)) := ⟨_, rfl⟩
  rw [← hsg] at HC HS
  clear hR hQ h ha hb hwa hwb hl hna h0 hsg h19
  go_enter Tryz.func27, Tryz.ntmps27
  go_upto_region 1 with fail
  go_region_held3 (fun _ => True)
    (first | exact True.intro)
    (first | (go_at_call 37; refine (gdoes_any _).mono ?_; rintro e w1 ⟨rfl, hx1⟩; have HX1 := Lib.hid (show Ext w w1 from Ext.trans (Ext.refl w).drew hx1); clear hx1) | (go_at_call 38; refine (HS.out _).mono ?_; rintro e w2 ⟨rfl, rfl⟩) | (refine (HC.out _ HX1.out).mono ?_; rintro e w3 ⟨q3, c3, gv3, rfl, H3⟩))
  all_goals
    go_wp2
    rw [HQ.out]
    exact ⟨q3, c3, gv3, rfl, Lib.hid ⟨H3.out.1, (Stp.of_ext HX1.out).trans H3.out.2.1, H3.out.2.2⟩⟩
end Go.Proofs.YtdjnekcpeaadhaaGreat
namespace Go.Proofs.YtdjnekcpeaadhaaGreat
open Go.RowKit Go.Maps
set_option linter.unusedSimpArgs false
set_option linter.unusedVariables false
set_option maxRecDepth 100000

/-- The wires of a cast. -/
def castF (f t : Int) (s : BSt) (a : List Nat) : BL :=
  if t = 1 then ((anyF s a).1, [(anyF s a).2]) else
  ((zeroF s).1, if wid t ≤ a.length then a.take (wid t) else a ++ List.replicate (wid t - a.length) (if sgn f then topF a else (zeroF s).2))
theorem WL.cutw {bs : List Nat} {w : World} {p : Option Addr} {n c : Nat} {l : List Nat} (h : WL bs w (.slice p n c) l) (m k : Nat) (hm : m ≤ k) (hmn : m ≤ l.length) (hk : k ≤ c) : WL bs w (.slice p (l.take m).length k) (l.take m) := by
  have hl : (l.take m).length = m := by rw [List.length_take]; omega
  have hn : n = l.length := by
    obtain ⟨a', c', e, -⟩ := h.1
    simp only [Value.slice.injEq] at e
    exact e.2.1
  have h2 := h.1
  rw [← hn] at h2
  refine ⟨?_, fun h0 b hb e => h.2 (by rintro rfl; simp at h0) b hb (by cases p with | none => cases e | some _ => exact e)⟩
  rw [hl, ← wvs_take]
  exact h2.cut m k hm hk
end Go.Proofs.YtdjnekcpeaadhaaGreat
namespace Go.Proofs.YtdjnekcpeaadhaaGreat
open Go.RowKit
set_option linter.unusedSimpArgs false
set_option linter.unusedVariables false
set_option maxRecDepth 100000

theorem eachF_len (f : BSt → Nat → Nat → BR) : ∀ (a b : List Nat) (s : BSt), (eachF f s a b).2.length = a.length
  | [], _, _ => rfl
  | x :: a, b, s => congrArg (· + 1) (eachF_len f a b.tail (f s x (b.getD 0 0)).1)
theorem sumF_len : ∀ (a b : List Nat) (s : BSt) (c : Nat), (sumF s a b c).2.1.length = a.length
  | [], _, _, _ => rfl
  | x :: a, b, s, c => congrArg (· + 1) (sumF_len a b.tail (addS s x (b.getD 0 0) c).1 (addS s x (b.getD 0 0) c).2.2)
theorem negF_len (s : BSt) (a : List Nat) : (negF s a).2.length = a.length := (sumF_len _ _ _ _).trans (by simp)
theorem chooseF_len (s : BSt) (c : Nat) (a b : List Nat) : (chooseF s c a b).2.length = a.length := eachF_len _ _ _ _
theorem lessF_len (s : BSt) (a b : List Nat) : (lessF s a b).2.1.length = a.length := sumF_len _ _ _ _
theorem mulG_len : ∀ (n : Nat) (s : BSt) (a b out : List Nat) (i : Nat), (mulG n s a b out i).2.length = out.length
  | 0, _, _, _, _, _ => rfl
  | n + 1, s, a, b, out, i => (mulG_len n _ a b _ (i + 1)).trans (sumF_len _ _ _ _)
theorem divS_len (s : BSt) (x : Nat) (rest wide : List Nat) (w : Nat) : (divS s x rest wide w).2.2.length = (rest.take w).length + 1 := (chooseF_len _ _ _ _).trans (lessF_len _ _ _)
theorem divG_len : ∀ (n : Nat) (s : BSt) (a wide quot rest : List Nat), rest.length = a.length + 1 → (divG n s a wide quot rest).2.1.length = quot.length ∧ (divG n s a wide quot rest).2.2.length = a.length + 1
  | 0, _, _, _, _, _, h => ⟨rfl, h⟩
  | n + 1, s, a, wide, quot, rest, h => by
    have h1 := divG_len n (divS s (a.getD n 0) rest wide a.length).1 a wide (quot.set n (divS s (a.getD n 0) rest wide a.length).2.1) (divS s (a.getD n 0) rest wide a.length).2.2 (by rw [divS_len, List.length_take]; omega)
    exact ⟨h1.1.trans (List.length_set ..), h1.2⟩
theorem partsF_len (s : BSt) (a b : List Nat) : (partsF s a b).2.1.length = a.length ∧ (partsF s a b).2.2.length = a.length := by
  have h := divG_len a.length (zeroF (zeroF (zeroF s).1).1).1 a (b.take a.length ++ [(zeroF (zeroF (zeroF s).1).1).2]) (List.replicate a.length (zeroF s).2) (List.replicate (a.length + 1) (zeroF (zeroF s).1).2) (by simp)
  refine ⟨h.1.trans (by simp), ?_⟩
  show (List.take a.length _).length = a.length
  rw [List.length_take, h.2]; omega
theorem sizeF_len (sg : Bool) (s : BSt) (a : List Nat) : (sizeF sg s a).2.length = a.length := by
  cases sg
  · rfl
  · exact (chooseF_len _ _ _ _).trans (negF_len _ _)
theorem maskF_len (s : BSt) (l b : List Nat) : (maskF s l b).2.length = l.length := eachF_len _ _ _ _
theorem divF_len (sg : Bool) (s : BSt) (a b : List Nat) : (divF sg s a b).2.length = a.length := by
  cases sg
  · exact (maskF_len _ _ _).trans ((partsF_len _ _ _).1.trans (sizeF_len _ _ _))
  · exact (maskF_len _ _ _).trans ((chooseF_len _ _ _ _).trans ((negF_len _ _).trans ((partsF_len _ _ _).1.trans (sizeF_len _ _ _))))
theorem modF_len (sg : Bool) (s : BSt) (a b : List Nat) : (modF sg s a b).2.length = a.length := by
  cases sg
  · exact (maskF_len _ _ _).trans ((partsF_len _ _ _).2.trans (sizeF_len _ _ _))
  · exact (maskF_len _ _ _).trans ((chooseF_len _ _ _ _).trans ((negF_len _ _).trans ((partsF_len _ _ _).2.trans (sizeF_len _ _ _))))
theorem movG_len : ∀ (n : Nat) (s : BSt) (a b : List Nat) (inn k : Nat), (movG n s a b inn k).2.1.length = a.length
  | 0, _, _, _, _, _ => rfl
  | n + 1, s, a, b, inn, k => by
    unfold movG
    split
    · rename_i h
      rw [movG_len n]
      exact (chooseF_len _ _ _ _).trans (by simp; omega)
    · rfl
theorem movF_len (s : BSt) (a b : List Nat) (inn : Nat) : (movF s a b inn).2.length = a.length := (chooseF_len _ _ _ _).trans (by simp)
theorem opF_len (n : Nat) (sg : Bool) (s : BSt) (a b : List Nat) (h : 1 ≤ n ∧ n ≤ 19) : (opF n sg s a b).2.length = if n = 11 ∨ 14 ≤ n then 1 else a.length := by
  rcases (show n = 1 ∨ n = 2 ∨ n = 3 ∨ n = 4 ∨ n = 5 ∨ n = 6 ∨ n = 7 ∨ n = 8 ∨ n = 9 ∨ n = 10 ∨ n = 11 ∨ n = 12 ∨ n = 13 ∨ n = 14 ∨ n = 15 ∨ n = 16 ∨ n = 17 ∨ n = 18 ∨ n = 19 by omega) with rfl | rfl | rfl | rfl | rfl | rfl | rfl | rfl | rfl | rfl | rfl | rfl | rfl | rfl | rfl | rfl | rfl | rfl | rfl
  · exact List.length_map ..
  · exact negF_len _ _
  · exact sumF_len _ _ _ _
  · exact lessF_len _ _ _
  · exact (mulG_len _ _ _ _ _ _).trans (by simp)
  · exact divF_len _ _ _ _
  · exact modF_len _ _ _ _
  · exact eachF_len _ _ _ _
  · exact eachF_len _ _ _ _
  · exact eachF_len _ _ _ _
  · rfl
  · exact movF_len _ _ _ _
  · exact (List.length_reverse ..).trans ((movF_len _ _ _ _).trans (List.length_reverse ..))
  all_goals rfl
theorem inputsF_len : ∀ (n : Nat) (s : BSt), (inputsF n s).2.length = n
  | 0, _ => rfl
  | n + 1, s => congrArg (· + 1) (inputsF_len n (inputF s).1)
end Go.Proofs.YtdjnekcpeaadhaaGreat
namespace Go.Proofs.YtdjnekcpeaadhaaGreat
open Go.RowKit Go.Maps
set_option linter.unusedSimpArgs false
set_option linter.unusedVariables false
set_option maxRecDepth 100000

theorem results_cell_tmp2 {P : Program} {fn : Func} {tmps : Array Value} {w : World} {p u u2 : Tmp} {ty : TypeId} (h : fn.results = #[.cell p ty, .tmp u, .tmp u2]) (g : Nat) (t : TypeId) (cs : Array Value) (fr : Nat × Nat) (d : TypeDesc)
    (hp : tmps.getD p undef = .pointer (some ⟨g, 0, none⟩)) (hg : w.heap[g]? = some (.cells cs t fr))
    (hu : P.underlying ty = some d) (hd : (match d with | .struct _ | .array _ _ => true | _ => false) = true) (hi : (P.info? ty).map (·.size) = some cs.size) :
    (results fn tmps).run P w = .ok (.tuple #[.agg cs, tmps.getD u undef, tmps.getD u2 undef]) w := by
  have hp' : tmps[p]?.getD undef = .pointer (some ⟨g, 0, none⟩) := by simpa using hp
  simp [results, h, hp', asAddr, run_loadVar_row w g t ty cs fr d hg hu hd hi]
theorem ret_row3 {P : Program} {fn : Func} {R : Ending → World → Prop} {a : Act} {w : World} {p u u2 : Tmp} {ty : TypeId} (h : fn.results = #[.cell p ty, .tmp u, .tmp u2]) (n : Nat) (t : TypeId) (cs : Array Value) (d : TypeDesc)
    (hp : a.tmps.getD p undef = .pointer (some ⟨n, 0, none⟩)) (hg : w.heap[n]? = some (.cells cs t (0, 0)))
    (hu : P.underlying ty = some d) (hd : (match d with | .struct _ | .array _ _ => true | _ => false) = true) (hi : (P.info? ty).map (·.size) = some cs.size) (hdf : a.defers = [])
    (hR : R (.returned (.tuple #[.agg cs, a.tmps.getD u undef, a.tmps.getD u2 undef])) w) : bodyPost P fn R .ret a w :=
  bodyPost_ret (results_cell_tmp2 h _ _ _ _ _ hp hg hu hd hi) hdf hR
theorem box_set1 {W : World} {B : Nat} {v : Value} {t : TypeId} (v' : Value) (h : W.heap[B]? = some (.cells #[v] t (0, 0))) : (W.setCell ⟨B, 0, none⟩ v').heap[B]? = some (.cells #[v'] t (0, 0)) := by
  obtain ⟨hlt, hk⟩ := Array.getElem?_eq_some_iff.1 h
  show (W.heap.modify B _)[B]? = _
  rw [Array.getElem?_eq_getElem (by rw [Array.size_modify]; exact hlt), Array.getElem_modify_self, hk]
  rfl
/-- The contract of Kind. -/
def KindC : Prop := ∀ (op k : Int) (w : World), Calls Tryz.prog 22 #[.int .i64 op, .int .i64 k] w fun e w' => e = .returned (.tuple #[.int .i64 (binv op k 0 0).2.1, .bool (binv op k 0 0).2.2]) ∧ Ext w w'
/-- The net of an operation. -/
def opNet (n : Nat) (k : Int) (two : Bool) : BL :=
  if two then opF n (sgn k) (inputsF (wid k) (inputsF (wid k) newS).1).1 (inputsF (wid k) newS).2 (inputsF (wid k) (inputsF (wid k) newS).1).2
  else opF n (sgn k) (inputsF (wid k) newS).1 (inputsF (wid k) newS).2 []
/-- A net and wires, fresh rows, apart. -/
def NetR (R : BL) (w : World) (e : Ending) (w' : World) : Prop :=
  ∃ gv q c, e = .returned (.tuple #[.agg #[gv], .slice q R.2.length c, .bool true]) ∧ Hid (Ext w w' ∧ w'.ownsRow w.heap.size 62 3 gv R.1.gs.length (gcells R.1.gs) ∧ w'.ownsRow w.heap.size 3 1 (.slice q R.2.length c) R.2.length (wvs R.2) ∧ ∀ b, gv.ownBlock = some b → (Value.slice q R.2.length c).ownBlock ≠ some b)
def NetNo (w : World) (e : Ending) (w' : World) : Prop := e = .returned (.tuple #[.agg #[.slice none 0 0], .slice none 0 0, .bool false]) ∧ Ext w w'
set_option maxHeartbeats 4000000 in
theorem op_no2 (hK : KindC) (op k : Int) (w : World) (h : (binv op k 0 0).2.2 = false) :
    Calls Tryz.prog 7 #[.int .i64 op, .int .i64 k, .bool true] w (NetNo w) := by
  have HK := Lib.hid (hK op k)
  rw [h] at HK
  obtain ⟨Q, hQ⟩ : ∃ Q, Q = NetNo w := ⟨_, rfl⟩
  rw [← hQ]
  have HQ := Lib.hid hQ
  clear hQ h
  go_enter Tryz.func7, Tryz.ntmps7
  go_wp2_with (go_at_call 22; refine (HK.out _).mono ?_; rintro e w1 ⟨rfl, hx⟩; have HX := Lib.hid hx; (first | (with_reducible obtain ⟨t2, rfl⟩ := Ext.tok2 hx) | (obtain ⟨t2, rfl⟩ := Ext.tok hx)))
  have hb := box_set1 (.slice none 0 0) (ext_block HX.out (heap_alloc_last w (.cells #[.slice none 0 0] 28)))
  refine ret_row3 rfl w.heap.size 28 #[.slice none 0 0] _ rfl hb Tryz.underlying28 rfl (by kernel_rfl) rfl ?_
  rw [HQ.out]
  exact ⟨rfl, (Ext.trans ((Ext.refl w).alloc _) HX.out).setCell (Nat.le_refl _) _⟩
set_option maxHeartbeats 4000000 in
theorem op_no1 (op k : Int) (w : World) (h : (unv op k 0).2 = false) :
    Calls Tryz.prog 7 #[.int .i64 op, .int .i64 k, .bool false] w (NetNo w) := by
  have HK := Lib.hid (fun w1 => bvUn_any op k 0 w1)
  rw [h] at HK
  obtain ⟨Q, hQ⟩ : ∃ Q, Q = NetNo w := ⟨_, rfl⟩
  rw [← hQ]
  have HQ := Lib.hid hQ
  clear hQ h
  go_enter Tryz.func7, Tryz.ntmps7
  go_wp2_with (go_at_call 23; refine (HK.out _).mono ?_; rintro e w1 ⟨rfl, hx⟩; have HX := Lib.hid hx; (first | (with_reducible obtain ⟨t2, rfl⟩ := Ext.tok2 hx) | (obtain ⟨t2, rfl⟩ := Ext.tok hx)))
  have hb := box_set1 (.slice none 0 0) (ext_block HX.out (heap_alloc_last w (.cells #[.slice none 0 0] 28)))
  refine ret_row3 rfl w.heap.size 28 #[.slice none 0 0] _ rfl hb Tryz.underlying28 rfl (by kernel_rfl) rfl ?_
  rw [HQ.out]
  exact ⟨rfl, (Ext.trans ((Ext.refl w).alloc _) HX.out).setCell (Nat.le_refl _) _⟩
theorem netR_done {w w1 w6 w7 : World} {X gc z : Nat} {q ga : Option Addr} {R : BL} (hX : X = w.heap.size) (hE : Ext w w6) (h1 : X < w1.heap.size) (hr : w6.ownsRow w1.heap.size 62 3 (.slice ga R.1.gs.length gc) R.1.gs.length (gcells R.1.gs)) (hs : (w.alloc (.cells #[.slice none 0 0] 28)).heap.size ≤ w1.heap.size) (h16 : w1.heap.size ≤ w6.heap.size)
    (ho : w7.ownsRow w6.heap.size 3 1 (.slice q R.2.length z) (0 + R.2.length) ([] ++ wvs R.2)) (h7 : Ext w6 w7) :
    NetR R w (.returned (.tuple #[.agg #[.slice ga R.1.gs.length gc], .slice q R.2.length z, .bool true])) (w7.setCell ⟨X, 0, none⟩ (.slice ga R.1.gs.length gc)) := by
  have hk : Kb [X] w7 (w7.setCell ⟨X, 0, none⟩ (.slice ga R.1.gs.length gc)) := Kb.set w7 X 0 (by simp) _
  have hXX : ∀ b ∈ [X], b = X := fun b hb => by simpa using hb
  rw [Nat.zero_add, List.nil_append] at ho
  have hle : w.heap.size ≤ w1.heap.size := by omega
  refine ⟨_, q, z, rfl, Lib.hid ⟨(Ext.trans hE h7).setCell (by simp; omega) _, ?_, ?_, fun b h8 h9 => ?_⟩⟩
  · refine hk.row (ownsRow_ext (own_base hr hle) h7) (fun b hb e => ?_)
    rw [hXX b hb] at e
    have := (hr.lt X e).1
    omega
  · refine hk.row (own_base ho hE.size) (fun b hb e => ?_)
    rw [hXX b hb] at e
    have := (ho.lt X e).1
    have := hE.size
    omega
  · have := (hr.lt b h8).2
    have := (ho.lt b h9).1
    omega
set_option maxHeartbeats 4000000 in
theorem op_yes2 (hK : KindC) (n : Nat) (k : Int) (w : World) (h : (binv (n : Int) k 0 0).2.2 = true) (h19 : 3 ≤ n ∧ n ≤ 19) (hk : 0 < wid k) :
    Calls Tryz.prog 7 #[.int .i64 (n : Int), .int .i64 k, .bool true] w (NetR (opNet n k true) w) := by
  have HK := Lib.hid (hK (n : Int) k)
  rw [h] at HK
  obtain ⟨R, hR⟩ : ∃ R, R = opNet n k true := ⟨_, rfl⟩
  have HRL : Hid (0 < R.2.length ∧ 0 + R.2.length ≤ 1000000) := Lib.hid (by
    have h1 := opF_len n (sgn k) (inputsF (wid k) (inputsF (wid k) newS).1).1 (inputsF (wid k) newS).2 (inputsF (wid k) (inputsF (wid k) newS).1).2 (by omega)
    rw [inputsF_len] at h1
    have h2 : R.2.length = if n = 11 ∨ 14 ≤ n then 1 else wid k := by rw [hR]; exact h1
    have h3 := wid_le k
    split at h2 <;> omega)
  rw [← hR]
  obtain ⟨Q, hQ⟩ : ∃ Q, Q = NetR R w := ⟨_, rfl⟩
  rw [← hQ]
  have HQ := Lib.hid hQ
  have hm64 := wid_le k
  obtain ⟨m, hm⟩ : ∃ m, m = wid k := ⟨_, rfl⟩
  have hWd := Lib.hid (fun w1 => bvWidth_any k w1)
  rw [width_wid k, ← hm] at hWd
  obtain ⟨i1, hi1⟩ : ∃ i, i = inputsF m newS := ⟨_, rfl⟩
  obtain ⟨i2, hi2⟩ : ∃ i, i = inputsF m i1.1 := ⟨_, rfl⟩
  have hRR : R = opF n (sgn k) i2.1 i1.2 i2.2 := by rw [hR, hi2, hi1, hm]; rfl
  have w1 : BWf i1.1 ∧ WsB i1.2 ∧ i1.2.length = m := by rw [hi1]; exact inputsF_wf m newS_wf
  have w2 : BWf i2.1 ∧ WsB i2.2 ∧ i2.2.length = m := by rw [hi2]; exact inputsF_wf m w1.1
  rw [← hm] at hm64 hk
  have HI1 : Hid (∀ W N M gv1 w1, GB W N M gv1 newS w1 → Calls Tryz.prog 25 #[.pointer (some ⟨N, 0, none⟩), .int .i64 (m : Int)] w1 (RetL W N M gv1 i1 w1)) := Lib.hid (fun W N M gv1 w1 h1 => by rw [hi1]; exact inputsB_any W w1 N M gv1 newS m h1 (by omega))
  have HI2 : Hid (∀ W N M gv1 w1, GB W N M gv1 i1.1 w1 → Calls Tryz.prog 25 #[.pointer (some ⟨N, 0, none⟩), .int .i64 (m : Int)] w1 (RetL W N M gv1 i2 w1)) := Lib.hid (fun W N M gv1 w1 h1 => by rw [hi2]; exact inputsB_any W w1 N M gv1 i1.1 m h1 (by omega))
  have HD : Hid (∀ W N M gv1 v u w1, GB W N M gv1 i2.1 w1 → WL (Bs N M gv1) w1 v i1.2 → WL (Bs N M gv1) w1 u i2.2 → Calls Tryz.prog 27 #[.pointer (some ⟨N, 0, none⟩), .int .i64 (n : Int), .int .i64 k, v, u] w1 (RetL W N M gv1 R w1)) := Lib.hid (fun W N M gv1 v u wx h1 h2 h3 => by rw [hRR]; exact do_any W wx N M gv1 v u k i2.1 i1.2 i2.2 n h1 h2 h3 w1.2.1 w2.2.1 (by omega) (fun _ => by rw [w1.2.2, w2.2.2]) (by rw [w1.2.2]; omega) (by rw [w1.2.2]; omega))
  clear hR hRR hi1 hi2 hm w1 w2 hQ h hK
  go_enter Tryz.func7, Tryz.ntmps7
  go_wp2_with (first | (go_at_call 22; refine (HK.out _).mono ?_; rintro e w1 ⟨rfl, hx⟩; have HX := Lib.hid hx; clear hx) | (go_at_call 24; refine (new_any _).mono ?_; rintro e w2 ⟨N, M, rfl, HB2⟩) | (go_at_call 26; refine (hWd.out _).mono ?_; rintro e w5 ⟨rfl, rfl⟩) | (go_at_call 25; first | (refine (HI2.out _ N M gv3 _ HB3.out.1).mono ?_; rintro e w4 ⟨q4, c4, gv4, rfl, H4⟩; have HA4 := Lib.hid (HB3.out.2.2.step H4.out.2.1)) | (refine (HI1.out _ N M _ _ HB2.out).mono ?_; rintro e w3 ⟨q3, c3, gv3, rfl, HB3⟩)) | (go_at_call 27; refine (HD.out _ N M gv4 _ _ _ H4.out.1 HA4.out H4.out.2.2).mono ?_; rintro e w6 ⟨q6, c6, gv6, rfl, H6⟩))
  obtain ⟨ga, gc, rfl⟩ := own_n H6.out.1.row
  have hb := ext_block H6.out.1.ext (ext_block HX.out (heap_alloc_last w (.cells #[.slice none 0 0] 28)))
  have hEw : Ext w w6 := Ext.trans (Ext.trans ((Ext.refl w).alloc (.cells #[.slice none 0 0] 28)) HX.out) H6.out.1.ext
  have hXw : w.heap.size < w1.heap.size := Nat.lt_of_lt_of_le (by simp) HX.out.size
  obtain ⟨X, hX⟩ : ∃ X, X = w.heap.size := ⟨_, rfl⟩
  rw [← hX] at hb hXw ⊢
  have hbx := BoxV.of_row hb
  have hX0 := hbx.cells 0 _ rfl
  have hXf := hbx.fz
  have hXl := hbx.lt
  have hNX : N ≠ X := by have := H6.out.1.ns.1; omega
  have hN0 := H6.out.1.box.cells 0 _ rfl
  have hNl := H6.out.1.box.lt
  have HE := Lib.hid (And.intro hEw (And.intro hXw hX))
  have HBX := Lib.hid hbx
  have HB := Lib.hid hb
  have HNK : Hid (∀ w' : World, w'.cell? ⟨N, 0, none⟩ = some (.slice ga R.1.gs.length gc) → (w'.setCell ⟨X, 0, none⟩ (.slice ga R.1.gs.length gc)).cell? ⟨N, 0, none⟩ = some (.slice ga R.1.gs.length gc)) := Lib.hid (fun w' hc => (Kb.set (S := [X]) w' X 0 (by simp) _).cell (by simpa using hNX) hc)
  have HO1 : Hid (∀ u ∈ wvs R.2, u.oneCell' = true) := Lib.hid (fun u hu => by obtain ⟨z, -, rfl⟩ := List.mem_map.1 hu; rfl)
  have HWL : Hid ((wvs R.2).length = R.2.length) := Lib.hid (wvs_len _)
  clear hEw hX hXw hb hbx
  go_region_held3 (fun w' => w'.cell? ⟨N, 0, none⟩ = some (.slice ga R.1.gs.length gc))
    (first | exact hN0 | exact HO7.out.2.cell hN0 | exact HNK.out _ hN0 | exact HNK.out _ (HO7.out.2.cell hN0))
    (first | (refine step_append_full rfl (.const (.slice none 0 0)) (.tmp 50) rfl none 0 [] rfl (SlC.nil _) rfl _ R.2.length (wvs R.2) rfl (H6.out.2.2.1.ext (Ext.refl w6).drew) HWL.out HO1.out HRL.out.1 HRL.out.2 ?_; intro v7 w7 hown7 hg7; obtain ⟨x7, y7, z7, rfl⟩ := own_slice3 hown7; have HO7 := Lib.hid (And.intro hown7 (show Ext w6 w7 from Ext.trans (Ext.refl w6).drew (ext_grown_nil hg7))); have hbx7 := HBX.out.ext HO7.out.2; have c7 := hbx7.cells 0 _ rfl; have f7 := hbx7.fz; have l7 := hbx7.lt; clear hown7 hg7 hbx7))
  have hy : y7 = R.2.length := by
    obtain ⟨a', c', e, -⟩ := SlC.of_owns HO7.out.1
    simp only [Value.slice.injEq] at e
    omega
  subst hy
  go_wp2
  refine ret_row3 rfl X 28 #[.slice ga R.1.gs.length gc] _ rfl (box_set1 (.slice ga R.1.gs.length gc) (ext_block HO7.out.2 HB.out)) Tryz.underlying28 rfl (by kernel_rfl) rfl ?_
  rw [HQ.out]
  exact netR_done HE.out.2.2 HE.out.1 HE.out.2.1 H6.out.1.row HX.out.size H6.out.1.ext.size HO7.out.1 HO7.out.2
set_option maxHeartbeats 4000000 in
theorem op_yes1 (n : Nat) (k : Int) (w : World) (h : (unv (n : Int) k 0).2 = true) (h19 : 1 ≤ n ∧ n ≤ 2) (hk : 0 < wid k) :
    Calls Tryz.prog 7 #[.int .i64 (n : Int), .int .i64 k, .bool false] w (NetR (opNet n k false) w) := by
  have HK := Lib.hid (fun w1 => bvUn_any (n : Int) k 0 w1)
  rw [h] at HK
  obtain ⟨R, hR⟩ : ∃ R, R = opNet n k false := ⟨_, rfl⟩
  have HRL : Hid (0 < R.2.length ∧ 0 + R.2.length ≤ 1000000) := Lib.hid (by
    have h1 := opF_len n (sgn k) (inputsF (wid k) newS).1 (inputsF (wid k) newS).2 [] (by omega)
    rw [inputsF_len] at h1
    have h2 : R.2.length = if n = 11 ∨ 14 ≤ n then 1 else wid k := by rw [hR]; exact h1
    have h3 := wid_le k
    split at h2 <;> omega)
  rw [← hR]
  obtain ⟨Q, hQ⟩ : ∃ Q, Q = NetR R w := ⟨_, rfl⟩
  rw [← hQ]
  have HQ := Lib.hid hQ
  have hm64 := wid_le k
  obtain ⟨m, hm⟩ : ∃ m, m = wid k := ⟨_, rfl⟩
  have hWd := Lib.hid (fun w1 => bvWidth_any k w1)
  rw [width_wid k, ← hm] at hWd
  obtain ⟨i1, hi1⟩ : ∃ i, i = inputsF m newS := ⟨_, rfl⟩
  have hRR : R = opF n (sgn k) i1.1 i1.2 [] := by rw [hR, hi1, hm]; rfl
  have w1 : BWf i1.1 ∧ WsB i1.2 ∧ i1.2.length = m := by rw [hi1]; exact inputsF_wf m newS_wf
  rw [← hm] at hm64 hk
  have HI1 : Hid (∀ W N M gv1 w1, GB W N M gv1 newS w1 → Calls Tryz.prog 25 #[.pointer (some ⟨N, 0, none⟩), .int .i64 (m : Int)] w1 (RetL W N M gv1 i1 w1)) := Lib.hid (fun W N M gv1 w1 h1 => by rw [hi1]; exact inputsB_any W w1 N M gv1 newS m h1 (by omega))
  have HD : Hid (∀ W N M gv1 v w1, GB W N M gv1 i1.1 w1 → WL (Bs N M gv1) w1 v i1.2 → Calls Tryz.prog 27 #[.pointer (some ⟨N, 0, none⟩), .int .i64 (n : Int), .int .i64 k, v, .slice none 0 0] w1 (RetL W N M gv1 R w1)) := Lib.hid (fun W N M gv1 v wx h1 h2 => by rw [hRR]; exact do_any W wx N M gv1 v (.slice none 0 0) k i1.1 i1.2 [] n h1 h2 (WL.nil _ _) w1.2.1 (fun _ h => by cases h) (by omega) (fun h => by omega) (by rw [w1.2.2]; omega) (by rw [w1.2.2]; omega))
  clear hR hRR hi1 hm w1 hQ h
  go_enter Tryz.func7, Tryz.ntmps7
  go_wp2_with (first | (go_at_call 23; refine (HK.out _).mono ?_; rintro e w1 ⟨rfl, hx⟩; have HX := Lib.hid hx; clear hx) | (go_at_call 24; refine (new_any _).mono ?_; rintro e w2 ⟨N, M, rfl, HB2⟩) | (go_at_call 26; refine (hWd.out _).mono ?_; rintro e w5 ⟨rfl, rfl⟩) | (go_at_call 25; refine (HI1.out _ N M _ _ HB2.out).mono ?_; rintro e w3 ⟨q3, c3, gv3, rfl, HB3⟩) | (go_at_call 27; refine (HD.out _ N M gv3 _ _ HB3.out.1 HB3.out.2.2).mono ?_; rintro e w6 ⟨q6, c6, gv6, rfl, H6⟩))
  obtain ⟨ga, gc, rfl⟩ := own_n H6.out.1.row
  have hb := ext_block H6.out.1.ext (ext_block HX.out (heap_alloc_last w (.cells #[.slice none 0 0] 28)))
  have hEw : Ext w w6 := Ext.trans (Ext.trans ((Ext.refl w).alloc (.cells #[.slice none 0 0] 28)) HX.out) H6.out.1.ext
  have hXw : w.heap.size < w1.heap.size := Nat.lt_of_lt_of_le (by simp) HX.out.size
  obtain ⟨X, hX⟩ : ∃ X, X = w.heap.size := ⟨_, rfl⟩
  rw [← hX] at hb hXw ⊢
  have hbx := BoxV.of_row hb
  have hX0 := hbx.cells 0 _ rfl
  have hXf := hbx.fz
  have hXl := hbx.lt
  have hNX : N ≠ X := by have := H6.out.1.ns.1; omega
  have hN0 := H6.out.1.box.cells 0 _ rfl
  have hNl := H6.out.1.box.lt
  have HE := Lib.hid (And.intro hEw (And.intro hXw hX))
  have HBX := Lib.hid hbx
  have HB := Lib.hid hb
  have HNK : Hid (∀ w' : World, w'.cell? ⟨N, 0, none⟩ = some (.slice ga R.1.gs.length gc) → (w'.setCell ⟨X, 0, none⟩ (.slice ga R.1.gs.length gc)).cell? ⟨N, 0, none⟩ = some (.slice ga R.1.gs.length gc)) := Lib.hid (fun w' hc => (Kb.set (S := [X]) w' X 0 (by simp) _).cell (by simpa using hNX) hc)
  have HO1 : Hid (∀ u ∈ wvs R.2, u.oneCell' = true) := Lib.hid (fun u hu => by obtain ⟨z, -, rfl⟩ := List.mem_map.1 hu; rfl)
  have HWL : Hid ((wvs R.2).length = R.2.length) := Lib.hid (wvs_len _)
  clear hEw hX hXw hb hbx
  go_region_held3 (fun w' => w'.cell? ⟨N, 0, none⟩ = some (.slice ga R.1.gs.length gc))
    (first | exact hN0 | exact HO7.out.2.cell hN0 | exact HNK.out _ hN0 | exact HNK.out _ (HO7.out.2.cell hN0))
    (first | (refine step_append_full rfl (.const (.slice none 0 0)) (.tmp 50) rfl none 0 [] rfl (SlC.nil _) rfl _ R.2.length (wvs R.2) rfl (H6.out.2.2.1.ext (Ext.refl w6).drew) HWL.out HO1.out HRL.out.1 HRL.out.2 ?_; intro v7 w7 hown7 hg7; obtain ⟨x7, y7, z7, rfl⟩ := own_slice3 hown7; have HO7 := Lib.hid (And.intro hown7 (show Ext w6 w7 from Ext.trans (Ext.refl w6).drew (ext_grown_nil hg7))); have hbx7 := HBX.out.ext HO7.out.2; have c7 := hbx7.cells 0 _ rfl; have f7 := hbx7.fz; have l7 := hbx7.lt; clear hown7 hg7 hbx7))
  have hy : y7 = R.2.length := by
    obtain ⟨a', c', e, -⟩ := SlC.of_owns HO7.out.1
    simp only [Value.slice.injEq] at e
    omega
  subst hy
  go_wp2
  refine ret_row3 rfl X 28 #[.slice ga R.1.gs.length gc] _ rfl (box_set1 (.slice ga R.1.gs.length gc) (ext_block HO7.out.2 HB.out)) Tryz.underlying28 rfl (by kernel_rfl) rfl ?_
  rw [HQ.out]
  exact netR_done HE.out.2.2 HE.out.1 HE.out.2.1 H6.out.1.row HX.out.size H6.out.1.ext.size HO7.out.1 HO7.out.2
end Go.Proofs.YtdjnekcpeaadhaaGreat
namespace Go.Proofs.YtdjnekcpeaadhaaGreat
open Go.RowKit Go.Maps
set_option linter.unusedSimpArgs false
set_option linter.unusedVariables false
set_option maxRecDepth 100000

/-- The net of a cast. -/
def castNet (f t : Int) : BL := castF f t (inputsF (wid f) newS).1 (inputsF (wid f) newS).2
theorem castF_len {f t : Int} (s : BSt) (a : List Nat) (h : 0 < wid t) : 0 < (castF f t s a).2.length ∧ (castF f t s a).2.length ≤ 64 := by
  have := wid_le t
  unfold castF
  split
  · simp
  · show 0 < List.length (ite _ _ _) ∧ List.length (ite _ _ _) ≤ 64
    split
    · rw [List.length_take]; omega
    · rw [List.length_append, List.length_replicate]; omega
end Go.Proofs.YtdjnekcpeaadhaaGreat
namespace Go.Proofs.YtdjnekcpeaadhaaGreat
open Go.RowKit
set_option linter.unusedSimpArgs false
set_option linter.unusedVariables false
set_option maxRecDepth 100000

def gvOf (g : Gt) : GateV := ⟨(g.op : Int), (g.a : Int), (g.b : Int)⟩
theorem gcells_of (l : List Gt) : gateCells (l.map gvOf) = gcells l := by
  unfold gateCells gcells
  rw [List.flatMap_map]
  rfl
theorem gvOf_wf {l : List Gt} (h : ∀ g ∈ l, g.op ≤ 3 ∧ WB g.a ∧ WB g.b) : GatesWf (l.map gvOf) := fun q hq => by
  obtain ⟨g, hg, rfl⟩ := List.mem_map.1 hq
  have := h g hg
  unfold WB at this
  unfold gvOf I64
  dsimp only
  omega
/-- What a made net is to its reader. -/
theorem NetR.read {R : BL} {w : World} {e : Ending} {w' : World} (h : NetR R w e w') : ∃ a c q d, e = .returned (.tuple #[.agg #[.slice a R.1.gs.length c], .slice q R.2.length d, .bool true]) ∧ Hid (Ext w w' ∧ GatesIn w' (.slice a R.1.gs.length c) (R.1.gs.map gvOf) ∧ SlC w' (.slice q R.2.length d) R.2.length (wvs R.2)) := by
  obtain ⟨gv, q, d, rfl, H⟩ := h
  obtain ⟨h1, h2, h3, -⟩ := H.out
  obtain ⟨a, c, rfl⟩ := own_n h2
  refine ⟨a, c, q, d, rfl, Lib.hid ⟨h1, ?_, SlC.of_owns h3⟩⟩
  unfold GatesIn
  rw [gcells_of, List.length_map]
  exact SlC.of_owns h2
/-- Eval where it is of inputs enough. -/
def EvG (W : World) (n : Nat) (v : List Bool) (e : Ending) (w' : World) : Prop :=
  ∃ g, e = .returned (.tuple #[.slice (some ⟨g, 0, none⟩) n n, .int .i64 0]) ∧ Hid (Ext W w' ∧ w'.ownsRow W.heap.size 4 1 (.slice (some ⟨g, 0, none⟩) n n) n (bools v))
theorem evalR_ok (l : List GateV) (gv : Value) (ins : List Bool) (iv : Value) (w : World) (h : GatesIn w gv l) (hwf : GatesWf l) (hi : SlC w iv ins.length (bools ins)) (hl : l.length ≤ 200000) (hn : netOk 0 l = true) (hc : insN l = ins.length) :
    Calls Tryz.prog 12 #[.agg #[gv], iv] w (EvG w l.length (evalN l [] ins)) := by
  refine (evalR_any l gv ins iv w h hwf hi hl).mono ?_
  rintro e w' (⟨h1, -⟩ | ⟨-, h1, -⟩ | ⟨-, -, g, rfl, h2, h3⟩)
  · rw [hn] at h1; cases h1
  · exact absurd hc h1
  · exact ⟨g, rfl, Lib.hid ⟨h2, h3⟩⟩
end Go.Proofs.YtdjnekcpeaadhaaGreat
namespace Go.Proofs.YtdjnekcpeaadhaaGreat
open Go.RowKit
set_option linter.unusedSimpArgs false
set_option linter.unusedVariables false
set_option maxRecDepth 100000

def aN : List GateV := [⟨2, 0, 0⟩, ⟨2, 0, 0⟩, ⟨3, 0, 2⟩]
def aM : List GateV := List.replicate 8 ⟨2, 0, 0⟩
theorem aN_net : (opNet 8 1 true).1.gs.map gvOf = aN ∧ (opNet 8 1 true).2 = [4] ∧ (opNet 8 1 true).1.gs.length = 3 := ⟨by kernel_rfl, by kernel_rfl, by kernel_rfl⟩
theorem aM_net : (opNet 1 6 false).1.gs.map gvOf = aM ∧ (opNet 1 6 false).2 = [1, 3, 5, 7, 9, 11, 13, 15] ∧ (opNet 1 6 false).1.gs.length = 8 := ⟨by kernel_rfl, by kernel_rfl, by kernel_rfl⟩
def NetA (l : List GateV) (n m : Nat) (x : Int) (w : World) (e : Ending) (w' : World) : Prop :=
  ∃ a c b o d, e = .returned (.tuple #[.agg #[.slice a n c], .slice (some ⟨b, o, none⟩) m d, .bool true]) ∧ Hid (Ext w w' ∧ GatesIn w' (.slice a n c) l ∧ w'.cell? ⟨b, o, none⟩ = some (.int .i64 x) ∧ b < w'.heap.size ∧ 0 < d)
theorem NetA.of {R : BL} {l : List GateV} {n m x : Nat} {xs : List Nat} {w : World} {e : Ending} {w' : World} (h : NetR R w e w') (h1 : R.1.gs.map gvOf = l) (h2 : R.2 = x :: xs) (h3 : R.1.gs.length = n) (h4 : (x :: xs).length = m) : NetA l n m (x : Int) w e w' := by
  obtain ⟨a, c, q, d, rfl, H⟩ := h.read
  rw [h1, h2, h3, h4] at H
  obtain ⟨b, o, rfl, hc⟩ : ∃ b o, q = some ⟨b, o, none⟩ ∧ w'.cell? ⟨b, o, none⟩ = some (.int .i64 (x : Int)) := by
    obtain ⟨a', c', e, -, -, hcc⟩ := H.out.2.2
    simp only [Value.slice.injEq] at e
    obtain ⟨b, o, e2, hcell⟩ := hcc 0 (.int .i64 (x : Int)) (by simp [wvs])
    exact ⟨b, o, e.1.trans e2, by simpa using hcell⟩
  refine ⟨a, c, b, o, d, by rw [h2, h3, h4], Lib.hid ⟨H.out.1, H.out.2.1, hc, World.block_lt_of_cell? w' _ hc, ?_⟩⟩
  obtain ⟨a', c', e, h5, -⟩ := H.out.2.2
  simp only [Value.slice.injEq] at e
  simp at h4
  omega
theorem aOp1 (hK : KindC) (w : World) : Calls Tryz.prog 7 #[.int .i64 8, .int .i64 1, .bool true] w (NetA aN 3 1 4 w) :=
  (op_yes2 hK 8 1 w (by kernel_rfl) (by omega) (by decide)).mono fun _ _ h => NetA.of h aN_net.1 aN_net.2.1 aN_net.2.2 rfl
theorem aOp2 (w : World) : Calls Tryz.prog 7 #[.int .i64 1, .int .i64 6, .bool false] w (NetA aM 8 8 1 w) :=
  (op_yes1 1 6 w (by kernel_rfl) (by omega) (by decide)).mono fun _ _ h => NetA.of h aM_net.1 aM_net.2.1 aM_net.2.2 rfl
theorem aN_wf : GatesWf aN := by unfold GatesWf aN I64; simp
theorem aM_wf : GatesWf aM := fun q hq => by rw [(List.mem_replicate.1 hq).2]; unfold I64; simp
theorem run_make8 (W : World) : Sem.run Tryz.prog (Instr.makeSlice 36 (.int .i64 8) (.int .i64 8)) W = .ok (.slice (some ⟨W.heap.size, 0, none⟩) 8 8) (W.alloc (.cells #[.bool false, .bool false, .bool false, .bool false, .bool false, .bool false, .bool false, .bool false] 4)) := by kernel_rfl
set_option maxHeartbeats 4000000 in
theorem alive22_any (hK : KindC) (w : World) : Calls Tryz.prog 4 #[] w fun e w' => e = .returned (.bool true) ∧ Ext w w' := by
  have H1 := Lib.hid (aOp1 hK)
  have H2 := Lib.hid aOp2
  clear hK
  go_enter Tryz.func4, Tryz.ntmps4
  go_upto_region 3 with (go_at_call 7; first | (have hn1 := HN1.out; clear hn1; refine (H2.out _).mono ?_; rintro e w2 ⟨a2, c2, b2, o2, d2, rfl, HN2⟩) | (refine (H1.out _).mono ?_; rintro e w1 ⟨a1, c1, b1, o1, d1, rfl, HN1⟩))
  have hE1 : Ext w1 (w2.alloc (.cells #[.slice a2 8 c2] 28)) := Ext.trans (Ext.trans ((Ext.refl w1).alloc _) HN2.out.1) ((Ext.refl w2).alloc _)
  have hX1 : (w2.alloc (.cells #[.slice a2 8 c2] 28)).cell? ⟨w1.heap.size, 0, none⟩ = some (.slice a1 3 c1) := ((Ext.refl w2).alloc _).cell (HN2.out.1.cell ((BoxV.of_row (heap_alloc_last w1 (.cells #[.slice a1 3 c1] 28))).cells 0 _ rfl))
  have hX2 : (w2.alloc (.cells #[.slice a2 8 c2] 28)).cell? ⟨w2.heap.size, 0, none⟩ = some (.slice a2 8 c2) := (BoxV.of_row (heap_alloc_last w2 (.cells #[.slice a2 8 c2] 28))).cells 0 _ rfl
  have hE2 : Ext w2 (w2.alloc (.cells #[.slice a2 8 c2] 28)) := (Ext.refl w2).alloc _
  obtain ⟨X1, hXe1⟩ : ∃ X, X = w1.heap.size := ⟨_, rfl⟩
  obtain ⟨X2, hXe2⟩ : ∃ X, X = w2.heap.size := ⟨_, rfl⟩
  rw [← hXe1] at hX1 ⊢
  rw [← hXe2] at hX2 ⊢
  have hk1 := hE1.cell HN1.out.2.2.1
  have hk2 := hE2.cell HN2.out.2.2.1
  have HG1 := Lib.hid (show GatesIn (w2.alloc (.cells #[.slice a2 8 c2] 28)) (.slice a1 3 c1) aN from SlC.ext HN1.out.2.1 hE1)
  have HG2 := Lib.hid (show GatesIn (w2.alloc (.cells #[.slice a2 8 c2] 28)) (.slice a2 8 c2) aM from SlC.ext HN2.out.2.1 hE2)
  have HEW := Lib.hid (HN1.out.1.trans hE1)
  have hd1 := HN1.out.2.2.2.2
  have hd2 := HN2.out.2.2.2.2
  generalize w2.alloc (.cells #[.slice a2 8 c2] 28) = w3 at hX1 hX2 hk1 hk2 HG1 HG2 HEW ⊢
  clear hE1 hE2 HN1 HN2 hXe1 hXe2 H1 H2
  have HV1 : Hid (∀ w' iv, Ext w3 w' → SlC w' iv 2 (bools [true, true]) → Calls Tryz.prog 12 #[.agg #[.slice a1 3 c1], iv] w' (EvG w' 3 [true, true, true])) := Lib.hid (fun w' iv hx hi => evalR_ok aN _ [true, true] iv w' (SlC.ext HG1.out hx) aN_wf hi (by decide) (by decide) (by decide))
  have HV2 : Hid (∀ w' iv, Ext w3 w' → SlC w' iv 8 (bools (List.replicate 8 false)) → Calls Tryz.prog 12 #[.agg #[.slice a2 8 c2], iv] w' (EvG w' 8 (List.replicate 8 false))) := Lib.hid (fun w' iv hx hi => evalR_ok aM _ (List.replicate 8 false) iv w' (SlC.ext HG2.out hx) aM_wf hi (by decide) (by decide) (by decide))
  go_upto_region 6 with (go_at_call 12; refine (HV1.out _ _ (by repeat first | exact Ext.refl _ | assumption | refine Ext.drew ?_ | refine Ext.drewN ?_ _ | refine Ext.extBy ?_ _ | refine Ext.alloc ?_ _ | refine Ext.setCell ?_ (by simp; try omega) _ | (refine Ext.trans ?_ (by assumption))) (SlC.fresh _ #[.bool true, .bool true] _ 2 _ (by simp) (by decide))).mono ?_; rintro e w4 ⟨g4, rfl, H4⟩)
  have hE4 : Ext w3 w4 := Ext.trans ((Ext.refl w3).alloc _) H4.out.1
  have x2 := hE4.cell hX2
  have HE4 := Lib.hid hE4
  have y1 := hE4.cell hk1
  have y2 := hE4.cell hk2
  have hmk := run_make8
  go_region_held3 (fun w' => w'.cell? ⟨X2, 0, none⟩ = some (.slice a2 8 c2))
    (first | exact x2 | exact ((Ext.refl w4).alloc _).drew.cell x2 | exact HE5.out.cell x2)
    (first | (go_at_call 12; refine (HV2.out _ _ (HE4.out.trans ((Ext.refl w4).alloc (.cells #[.bool false, .bool false, .bool false, .bool false, .bool false, .bool false, .bool false, .bool false] 4)).drew) (fresh_drew _ #[.bool false, .bool false, .bool false, .bool false, .bool false, .bool false, .bool false, .bool false] _ 8 _ (by simp) (by decide))).mono ?_; rintro e w5 ⟨g5, rfl, H5⟩; have HE5 := Lib.hid (show Ext w4 w5 from Ext.trans ((Ext.refl w4).alloc (.cells #[.bool false, .bool false, .bool false, .bool false, .bool false, .bool false, .bool false, .bool false] 4)).drew H5.out.1)))
  have z1 := HE5.out.cell y1
  have z2 := HE5.out.cell y2
  have HW1 : Hid (Calls Tryz.prog 13 #[.slice (some ⟨g4, 0, none⟩) 3 3, .int .i64 4] w5 fun e w' => e = .returned (.bool true) ∧ w5 = w') := Lib.hid (wireR_any [true, true, true] _ 4 (by decide) (by decide) w5 ((SlC.of_owns H4.out.2).ext HE5.out))
  have HW2 : Hid (Calls Tryz.prog 13 #[.slice (some ⟨g5, 0, none⟩) 8 8, .int .i64 1] w5 fun e w' => e = .returned (.bool true) ∧ w5 = w') := Lib.hid (wireR_any (List.replicate 8 false) _ 1 (by decide) (by decide) w5 (SlC.of_owns H5.out.2))
  have l1 := World.block_lt_of_cell? w5 _ z1
  have l2 := World.block_lt_of_cell? w5 _ z2
  clear hX1 hX2 hk1 hk2 x2 y1 y2 hmk hE4
  go_wp2_with (go_at_call 13; (first | (with_reducible refine HW1.out.mono ?_) | (with_reducible refine HW2.out.mono ?_)); rintro e w' ⟨rfl, rfl⟩)
  go_ret
  exact ⟨rfl, HEW.out.trans (HE4.out.trans HE5.out)⟩
end Go.Proofs.YtdjnekcpeaadhaaGreat
namespace Go.Proofs.YtdjnekcpeaadhaaGreat
open Go.RowKit
set_option linter.unusedSimpArgs false
set_option linter.unusedVariables false
set_option maxRecDepth 100000

theorem kindC : KindC := fun op k w => by
  go_enter Tryz.func22, Tryz.ntmps22
  go_wp2_with (go_at_call 33; refine (bvBin_any op k 0 0 (by unfold I64; omega) _).mono ?_; rintro e w1 ⟨rfl, hx⟩; (first | (with_reducible obtain ⟨t2, rfl⟩ := Ext.tok2 hx) | (obtain ⟨t2, rfl⟩ := Ext.tok hx)))
  go_ret2
  exact ⟨rfl, (by repeat first | exact Ext.refl _ | assumption | refine Ext.drew ?_ | refine Ext.drewN ?_ _ | refine Ext.extBy ?_ _ | refine Ext.alloc ?_ _ | refine Ext.setCell ?_ (by simp; try omega) _ | (refine Ext.trans ?_ (by assumption)))⟩
end Go.Proofs.YtdjnekcpeaadhaaGreat

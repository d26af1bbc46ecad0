/-
  The law on branches: plain.
  No condition.
  The law on branches: its walk.
  Condition: the numbers lie in memory.
-/
import Derived.Test.YtkjgghbdpmkmoaaJoB
namespace Go.Proofs.Ytkjgghbdpmkmoaa
open Go.RowKit Go.Maps
set_option linter.unusedSimpArgs false
set_option linter.unusedVariables false
set_option maxRecDepth 100000

abbrev e0 : ByteArray := ⟨#[]⟩
abbrev brC (lim : Int) : CE := .mk 4 16 0 0 e0 [exN bX, exL 2 lim]
abbrev brN : CE := .mk 3 2 0 0 e0 [exN bX]
abbrev brT : List ST := [.mk 2 bM (exN bX) [] [], .mk 1 bY (exN bM) [] []]
abbrev brE : List ST := [.mk 1 bY (exN bM) [] [], .mk 2 bM brN [] []]
def bS (lim : Int) : SP := { smallS with body := [.mk 3 e0 (brC lim) brT brE] }
/-- The value of eight bits. -/
def s8 (n : Int) : Int := wkr 2 n
theorem s8_is (n : Int) : isk 2 (s8 n) = true := isk_wkr n (by decide)
theorem s8_eq (n : Int) : s8 n = IntKind.i8.wrap n := by
  unfold s8 wkr
  simp only [show ¬ (2 : Int) = 1 by decide, if_false, if_true]
  have : IntKind.i8.wrap n = (n + 128) % 256 - 128 := by
    simp [IntKind.wrap, IntKind.bits, IntKind.signed, Int.bmod_def]
    omega
  rw [← IntWalk.i64_left]
  exact IntWalk.i64_in _ (by omega)
theorem s8_bd (n : Int) : -128 ≤ s8 n ∧ s8 n ≤ 127 := by
  rw [s8_eq]
  have : IntKind.i8.wrap n = (n + 128) % 256 - 128 := by
    simp [IntKind.wrap, IntKind.bits, IntKind.signed, Int.bmod_def]
    omega
  omega
theorem br_chk256 : ∀ k : Fin 256, chkS (bS ((k.val : Int) - 128)) = 0 := by decide +kernel
theorem br_chk (lim : Int) : chkS (bS (s8 lim)) = 0 := by
  have h := s8_bd lim
  have h1 := br_chk256 ⟨(s8 lim + 128).toNat, by omega⟩
  have h2 : (((s8 lim + 128).toNat : Nat) : Int) - 128 = s8 lim := by omega
  simp only [h2] at h1
  exact h1
theorem br_ks (lim : Int) : getV (ksP (bS lim)) bX = 2 := by
  show getV (ksP smallS) bX = 2
  decide +kernel
def wantB (lim : Int) : Int → List Int → List Int
  | _, [] => []
  | M, n :: l => (if s8 n < lim then s8 n else M) :: wantB lim (if s8 n < lim then s8 n else s8 (-(s8 n))) l
theorem tick_br (lim n M : Int) (vs : ENV) (hM : getV vs bM = M) : getV (tickP (bS (s8 lim)) vs [s8 n]) bY = (if s8 n < s8 lim then s8 n else M) ∧ getV (tickP (bS (s8 lim)) vs [s8 n]) bM = (if s8 n < s8 lim then s8 n else s8 (-(s8 n))) := by
  have hE : pushA (pushA vs (inP (bS (s8 lim)).ins [s8 n])) (zeroL (bS (s8 lim))) = (bY, 0) :: (bX, s8 n) :: vs := rfl
  have hx : getV ((bY, 0) :: (bX, s8 n) :: vs) bX = s8 n := by
    rw [getV_cons, if_neg (by decide), getV_cons, if_pos rfl]
  have hm : getV ((bY, 0) :: (bX, s8 n) :: vs) bM = M := by
    rw [getV_cons, if_neg (by decide), getV_cons, if_neg (by decide), hM]
  have hc : runE (ksP (bS (s8 lim))) ((bY, 0) :: (bX, s8 n) :: vs) (brC (s8 lim)) = (tru (decide (s8 n < s8 lim)), 1) := by
    rw [runE, if_neg (by decide), if_neg (by decide), runK, runK, runK, runE, if_neg (by decide), if_pos rfl, runE, if_pos rfl, hx, br_ks]
    unfold runF
    rw [if_neg (by decide), if_neg (by decide), if_neg (by decide)]
    have hb : binv 16 2 (s8 n) (s8 lim) = (tru (decide (s8 n < s8 lim)), 1, true) := by
      unfold binv binOk
      rw [s8_is, s8_is]
      rfl
    simp only [List.getD_cons_zero, List.getD_cons_succ, hb]
  unfold tickP
  rw [hE]
  show getV (doL _ [.mk 3 e0 (brC (s8 lim)) brT brE] _) bY = _ ∧ getV (doL _ [.mk 3 e0 (brC (s8 lim)) brT brE] _) bM = _
  rw [doL, doL, doS, if_pos rfl, hc]
  by_cases h : s8 n < s8 lim
  · rw [if_pos h, if_pos h, if_pos (by simp [h, tru])]
    rw [doL, doL, doL, doS, if_neg (by decide), doS, if_neg (by decide), runE, if_neg (by decide), if_pos rfl, runE, if_neg (by decide), if_pos rfl, hx]
    constructor
    · rw [getV_cons, if_pos rfl, getV_cons, if_pos rfl]
    · rw [getV_cons, if_neg (by decide), getV_cons, if_pos rfl]
  · rw [if_neg h, if_neg h, if_neg (by simp [h, tru])]
    have hn : (runE (ksP (bS (s8 lim))) ((bY, M) :: (bY, 0) :: (bX, s8 n) :: vs) brN).1 = s8 (-(s8 n)) := by
      rw [runE, if_neg (by decide), if_neg (by decide), runK, runK, runE, if_neg (by decide), if_pos rfl, br_ks]
      unfold runF
      rw [if_neg (by decide), if_pos rfl]
      simp only [List.getD_cons_zero]
      rw [getV_cons, if_neg (by decide), hx]
      unfold unv
      rw [s8_is]
      simp only [show ¬ (2 : Int) = 1 by decide, if_false, if_true, Bool.true_eq_false]
      have := s8_bd n
      have hw : wrap64 (-(s8 n)) = -(s8 n) := by rw [← IntWalk.i64_left]; exact IntWalk.i64_in _ (by omega)
      rw [hw]
      rfl
    have hmE : (runE (ksP (bS (s8 lim))) ((bY, 0) :: (bX, s8 n) :: vs) (exN bM)).1 = M := by
      rw [runE, if_neg (by decide), if_pos rfl]; exact hm
    rw [doL, doL, doL, doS, if_neg (by decide), doS, if_neg (by decide), hmE, hn]
    constructor
    · rw [getV_cons, if_neg (by decide), getV_cons, if_pos rfl]
    · rw [getV_cons, if_pos rfl]
theorem goT_br (lim : Int) : ∀ (l : List Int) (vs : ENV) (M : Int), getV vs bM = M → goT (bS (s8 lim)) vs (ones (l.map s8)) = ones (wantB (s8 lim) M l)
  | [], _, _, _ => by simp [ones, goT, wantB]
  | n :: l, vs, M, h => by
    obtain ⟨h1, h2⟩ := tick_br lim n M vs h
    have h3 := goT_br lim l (tickP (bS (s8 lim)) vs [s8 n]) _ h2
    simp only [ones, List.map_cons, goT, wantB] at h3 ⊢
    rw [h3]
    show ([getV (tickP (bS (s8 lim)) vs [s8 n]) bY] :: _) = _
    rw [h1]
theorem ask_ones : ∀ (l : List Int), (∀ x ∈ l, isk 2 x = true) → askL [2] (ones l) = 0
  | [], _ => by simp [ones, askL]
  | x :: l, h => by
    have ih := ask_ones l (fun y hy => h y (by simp [hy]))
    have hx := h x (by simp)
    simp only [ones, List.map_cons] at ih ⊢
    rw [askL]
    have : askR [2] [x] = 0 := by
      unfold askR
      simp [askZ, hx]
    rw [this]
    simpa using ih
theorem run_br (lim : Int) (l : List Int) (hl : l.length ≤ 60) : runS (bS (s8 lim)) (ones (l.map s8)) = (0, ones (wantB (s8 lim) 0 l)) := by
  unfold runS
  rw [if_neg (by rw [br_chk]; simp)]
  have ha : askV ((bS (s8 lim)).ins.map CV.kind) (ones (l.map s8)) = 0 := by
    unfold askV
    rw [if_neg (by simp [ones]; omega)]
    refine ask_ones _ (fun x hx => ?_)
    obtain ⟨y, _, rfl⟩ := List.mem_map.1 hx
    exact s8_is y
  rw [if_neg (by rw [ha]; simp)]
  rw [goT_br lim l _ 0 rfl]
theorem ok_brB (lim : Int) : okP (bS (s8 lim)) := by
  have h := s8_bd lim
  refine okP_of (cv_one (by decide) (by omega)) (cv_one (by decide) (by omega)) (fun v h => by cases h) (cl_one (by decide) (by omega) (by omega)) ?_
  refine okL_cons (okS_mk (by omega) (by decide) (okE_mk (by omega) (by omega) (by omega) (by omega) (by decide) (okK_cons (ok_exN _ (by decide)) (okK_cons (okE_mk (by omega) (by omega) (by omega) (by omega) (by decide) okK_nil) okK_nil))) ?_ ?_) okL_nil
  · exact okL_cons (okS_mk (by omega) (by decide) (ok_exN _ (by decide)) okL_nil okL_nil) (okL_cons (okS_mk (by omega) (by decide) (ok_exN _ (by decide)) okL_nil okL_nil) okL_nil)
  · exact okL_cons (okS_mk (by omega) (by decide) (ok_exN _ (by decide)) okL_nil okL_nil) (okL_cons (okS_mk (by omega) (by decide) (okE_mk (by omega) (by omega) (by omega) (by omega) (by decide) (okK_cons (ok_exN _ (by decide)) okK_nil)) okL_nil okL_nil) okL_nil)
/-- Two lists of rows that grow side by side. -/
structure OutPair (W : World) (a : Value) (xa : List Value) (oa : List (List Int)) (b : Value) (xb : List Value) (ob : List (List Int)) (w : World) : Prop where
  A : OutsA W a xa oa b.ownBlock.toList b.ownBlock.toList w
  B : OutsA W b xb ob a.ownBlock.toList a.ownBlock.toList w
section
variable {W w w' w2 : World} {a b a2 : Value} {xa xb : List Value} {oa ob : List (List Int)}
theorem OutPair.swap (h : OutPair W a xa oa b xb ob w) : OutPair W b xb ob a xa oa w := ⟨h.B, h.A⟩
theorem OutPair.start (W : World) (hx : Ext W w) : OutPair W (.slice none 0 0) [] [] (.slice none 0 0) [] [] w := ⟨OutsA.nil _ _ _ hx, OutsA.nil _ _ _ hx⟩
theorem OutPair.push (h : OutPair W a xa oa b xb ob w) (x : Int) (hg : ((w.alloc (.cells #[.int .i64 x] 3)).alloc (.cells #[.slice (some ⟨w.heap.size, 0, none⟩) 1 1] 23)).grownBy w2 a.ownBlock) (hown : w2.ownsRow W.heap.size 23 1 a2 (xa.length + 1) (xa ++ [.slice (some ⟨w.heap.size, 0, none⟩) 1 1])) (hat : a2.ownBlock = a.ownBlock ∨ a2.ownBlock = some ((w.alloc (.cells #[.int .i64 x] 3)).alloc (.cells #[.slice (some ⟨w.heap.size, 0, none⟩) 1 1] 23)).heap.size) :
    OutPair W a2 (xa ++ [.slice (some ⟨w.heap.size, 0, none⟩) 1 1]) (oa ++ [[x]]) b xb ob w2 := by
  have hka : Kb ([] : List Nat) w (w.alloc (.cells #[.int .i64 x] 3)) := Kb.of_ext ((Ext.refl w).alloc _)
  have hb1 : ∀ k ∈ b.ownBlock.toList, k < w.heap.size := fun k hk => (h.B.top.lt k (Option.mem_toList.1 hk)).2
  have h1 : OutsA W a xa oa b.ownBlock.toList b.ownBlock.toList (w.alloc (.cells #[.int .i64 x] 3)) := h.A.tick hka (by simp) (fun k hk => .inl hk) (fun k hk => .inl hk)
  have hlt : ∀ k ∈ b.ownBlock.toList, k < (w.alloc (.cells #[.int .i64 x] 3)).heap.size := fun k hk => by
    have := hb1 k hk
    simp; omega
  have hp := h1.push (x := .slice (some ⟨w.heap.size, 0, none⟩) 1 1) (r := [x]) (B := w.heap.size) one_row h.A.ext.size (fun q hq => ⟨fun hs => by
    simp only [Value.ownBlock, Option.some.injEq] at hq
    have := hb1 q hs
    omega, fun e => by
    simp only [Value.ownBlock, Option.some.injEq] at hq
    have := (h.A.top.lt q e).2
    omega⟩) hlt hlt hg hown hat
  refine ⟨hp.1, ?_⟩
  have hk : Kb a.ownBlock.toList w w2 := (Kb.of_ext ((Ext.refl w).alloc _)).trans hp.2
  refine h.B.tick hk (fun k hk => ⟨hk, hk, (h.A.top.lt k (Option.mem_toList.1 hk)).1⟩) (fun k hk2 => ?_) (fun k hk2 => ?_)
  all_goals
    have hk3 := Option.mem_toList.1 hk2
    rcases hat with e | e
    · rw [e] at hk3; exact .inl (Option.mem_toList.2 hk3)
    · rw [e] at hk3; simp at hk3; exact .inr (by omega)
end
theorem s8_neg (y : Int) (h : -128 ≤ y ∧ y ≤ 127) : IntKind.i64.wrap (-y) = -y ∧ wrap64 (-y) = -y := by
  have : IntKind.i64.wrap (-y) = -y := IntWalk.i64_in _ (by omega)
  exact ⟨this, by rw [← IntWalk.i64_left]; exact this⟩
theorem s8_conv (n : Int) : IntKind.i64.wrap (IntKind.i8.wrap n) = s8 n ∧ wrap64 (IntKind.i8.wrap n) = s8 n := by
  have h : IntKind.i64.wrap (IntKind.i8.wrap n) = s8 n := by
    have := s8_bd n
    rw [← s8_eq]; exact IntWalk.i64_in _ (by omega)
  exact ⟨h, by rw [← IntWalk.i64_left]; exact h⟩
/-- What m is behind numbers. -/
def memB (lim : Int) : Int → List Int → Int
  | M, [] => M
  | M, n :: l => memB lim (if s8 n < lim then s8 n else s8 (-(s8 n))) l
theorem memB_snoc (lim : Int) : ∀ (l : List Int) (M n : Int), memB lim M (l ++ [n]) = (if s8 n < lim then s8 n else s8 (-(s8 n)))
  | [], M, n => rfl
  | x :: l, M, n => by
    show memB lim _ (l ++ [n]) = _
    exact memB_snoc lim l _ n
theorem wantB_snoc (lim : Int) : ∀ (l : List Int) (M n : Int), wantB lim M (l ++ [n]) = wantB lim M l ++ [if s8 n < lim then s8 n else memB lim M l]
  | [], M, n => rfl
  | x :: l, M, n => by
    show _ :: wantB lim _ (l ++ [n]) = _
    rw [wantB_snoc lim l _ n]
    rfl
end Go.Proofs.Ytkjgghbdpmkmoaa
namespace Go.Proofs.Ytkjgghbdpmkmoaa
open Go.RowKit Go.Maps
set_option linter.unusedSimpArgs false
set_option linter.unusedVariables false
set_option maxRecDepth 100000

theorem rowsNil (w : World) : Calls Try.prog 12 #[.slice none 0 0] w fun e w' => ∃ p c, e = .returned (.slice p 0 c) ∧ Hid (Ext w w') := by
  refine (rows11_any [] _ w (SlC.nil w) (by decide)).mono ?_
  rintro e w' ⟨v, vs, h1, h2, h3⟩
  obtain ⟨a, c, e1, -⟩ := h2.top
  exact ⟨a, c, by rw [h1, e1]; rfl, Lib.hid h3⟩
set_option maxHeartbeats 8000000 in
theorem obcBranches_any (l : List Int) (lim : Int) (v : Value) (w : World) (hs : SlC w v l.length (i64s l)) (h64 : ∀ n ∈ l, I64 n) (hlim : I64 lim) : Calls Try.prog 4 #[v, .int .i64 lim] w fun e w' => e = .returned (.bool true) ∧ Ext w w' := by
  obtain ⟨Q, hQ⟩ : ∃ Q, Q = fun e w' => e = Ending.returned (.bool true) ∧ Ext w w' := ⟨_, rfl⟩
  rw [← hQ]
  have HQ := Lib.hid hQ
  obtain ⟨p, cap, rfl, h1, h2, hc⟩ := id hs
  obtain ⟨n, hn⟩ : ∃ n, n = l.length := ⟨_, rfl⟩
  rw [← hn] at h1 ⊢
  have hcI : (cap : Int) ≤ 9223372036854775807 := by unfold maxLen at h2; omega
  have HN := Lib.hid (And.intro hn (And.intro hc h64))
  have hw8 : IntKind.i64.wrap (IntKind.i8.wrap lim) = s8 lim := by
    have := s8_bd lim
    rw [← s8_eq]; exact IntWalk.i64_in _ (by omega)
  have hw9 : wrap64 (IntKind.i8.wrap lim) = s8 lim := by rw [← IntWalk.i64_left]; exact hw8
  clear hQ hn hs hc h64 h2
  by_cases hbig : 60 < n
  · have hb : (60 : Int) < (n : Int) := by omega
    go_enter Try.func4, Try.ntmps4
    go_wp2_with (first | (go_at_call 5; refine (alive17_any _).mono ?_; rintro e w1 ⟨rfl, H1⟩) | fail)
    rw [HQ.out]
    exact ⟨rfl, H1.out⟩
  have hb : ¬ (60 : Int) < (n : Int) := by omega
  go_enter Try.func4, Try.ntmps4
  go_upto_region 6 with (first | (go_at_call 5; refine (alive17_any _).mono ?_; rintro e w1 ⟨rfl, H1⟩) | (go_at_call 6; refine (small_any _).mono ?_; rintro e w2 ⟨g, rfl, H2⟩) | fail)
  have HE : Hid (Ext w (w2.alloc (.cells (smA g) 28))) := Lib.hid ((H1.out.trans H2.out.1).alloc _)
  have hbx : BoxV w2.heap.size (smA g).toList (w2.alloc (.cells (smA g) 28)) := BoxV.of_row (heap_alloc_last w2 _)
  have hlk : LikeS g smCs (smBs g) (w2.alloc (.cells (smA g) 28)) := H2.out.2.2.ext ((Ext.refl w2).alloc _)
  have hgX : g + 7 < w2.heap.size := (Array.getElem?_eq_some_iff.1 H2.out.2.2.body).1
  have hwg : w.heap.size ≤ g := Nat.le_trans H1.out.size H2.out.2.1
  generalize (w2.alloc (.cells (smA g) 28)) = wb at HE hbx hlk ⊢
  generalize w2.heap.size = X at hbx hgX ⊢
  have HLK := Lib.hid hlk
  have HBX := Lib.hid hbx
  have x4 := hbx.cells 4 _ rfl
  have xl := hbx.lt
  have xf := hbx.fz
  clear hbx hlk H1 H2
  have hX10 : Ext wb ((((((((((wb.alloc (.cells #[.int .i64 2, .int .i64 0, .int .i64 0, .int .i64 0, .string bX, NL] 35)).alloc (.cells #[.int .i64 2, .int .i64 0, .int .i64 0, .int .i64 0, .string bX, NL, .int .i64 1, .int .i64 0, .int .i64 2, .int .i64 (s8 lim), .string ⟨#[]⟩, NL] 35)).alloc (.cells #[.int .i64 2, .int .i64 0, .int .i64 0, .int .i64 0, .string bX, NL] 35)).alloc (.cells #[.int .i64 2, .int .i64 0, .int .i64 0, .int .i64 0, .string bM, NL] 35)).alloc (.cells #[.int .i64 2, .string bM, .int .i64 2, .int .i64 0, .int .i64 0, .int .i64 0, .string bX, NL, NL, NL, .int .i64 1, .string bY, .int .i64 2, .int .i64 0, .int .i64 0, .int .i64 0, .string bM, NL, NL, NL] 37)).alloc (.cells #[.int .i64 2, .int .i64 0, .int .i64 0, .int .i64 0, .string bM, NL] 35)).alloc (.cells #[.int .i64 2, .int .i64 0, .int .i64 0, .int .i64 0, .string bX, NL] 35)).alloc (.cells #[.int .i64 2, .int .i64 0, .int .i64 0, .int .i64 0, .string bX, NL] 35)).alloc (.cells #[.int .i64 1, .string bY, .int .i64 2, .int .i64 0, .int .i64 0, .int .i64 0, .string bM, NL, NL, NL, .int .i64 2, .string bM, .int .i64 3, .int .i64 2, .int .i64 0, .int .i64 0, .string ⟨#[]⟩, .slice (some ⟨wb.heap.size + 1 + 1 + 1 + 1 + 1 + 1 + 1, 0, none⟩) 1 1, NL, NL] 37)).alloc (.cells #[.int .i64 3, .string ⟨#[]⟩, .int .i64 4, .int .i64 16, .int .i64 0, .int .i64 0, .string ⟨#[]⟩, .slice (some ⟨wb.heap.size + 1, 0, none⟩) 2 2, .slice (some ⟨wb.heap.size + 1 + 1 + 1 + 1, 0, none⟩) 2 2, .slice (some ⟨wb.heap.size + 1 + 1 + 1 + 1 + 1 + 1 + 1 + 1, 0, none⟩) 2 2] 37)) := (((((((((((Ext.refl wb).alloc _).alloc _).alloc _).alloc _).alloc _).alloc _).alloc _).alloc _).alloc _).alloc _)
  have hx10 : (((((((((((wb.alloc (.cells #[.int .i64 2, .int .i64 0, .int .i64 0, .int .i64 0, .string bX, NL] 35)).alloc (.cells #[.int .i64 2, .int .i64 0, .int .i64 0, .int .i64 0, .string bX, NL, .int .i64 1, .int .i64 0, .int .i64 2, .int .i64 (s8 lim), .string ⟨#[]⟩, NL] 35)).alloc (.cells #[.int .i64 2, .int .i64 0, .int .i64 0, .int .i64 0, .string bX, NL] 35)).alloc (.cells #[.int .i64 2, .int .i64 0, .int .i64 0, .int .i64 0, .string bM, NL] 35)).alloc (.cells #[.int .i64 2, .string bM, .int .i64 2, .int .i64 0, .int .i64 0, .int .i64 0, .string bX, NL, NL, NL, .int .i64 1, .string bY, .int .i64 2, .int .i64 0, .int .i64 0, .int .i64 0, .string bM, NL, NL, NL] 37)).alloc (.cells #[.int .i64 2, .int .i64 0, .int .i64 0, .int .i64 0, .string bM, NL] 35)).alloc (.cells #[.int .i64 2, .int .i64 0, .int .i64 0, .int .i64 0, .string bX, NL] 35)).alloc (.cells #[.int .i64 2, .int .i64 0, .int .i64 0, .int .i64 0, .string bX, NL] 35)).alloc (.cells #[.int .i64 1, .string bY, .int .i64 2, .int .i64 0, .int .i64 0, .int .i64 0, .string bM, NL, NL, NL, .int .i64 2, .string bM, .int .i64 3, .int .i64 2, .int .i64 0, .int .i64 0, .string ⟨#[]⟩, .slice (some ⟨wb.heap.size + 1 + 1 + 1 + 1 + 1 + 1 + 1, 0, none⟩) 1 1, NL, NL] 37)).alloc (.cells #[.int .i64 3, .string ⟨#[]⟩, .int .i64 4, .int .i64 16, .int .i64 0, .int .i64 0, .string ⟨#[]⟩, .slice (some ⟨wb.heap.size + 1, 0, none⟩) 2 2, .slice (some ⟨wb.heap.size + 1 + 1 + 1 + 1, 0, none⟩) 2 2, .slice (some ⟨wb.heap.size + 1 + 1 + 1 + 1 + 1 + 1 + 1 + 1, 0, none⟩) 2 2] 37))).cell? ⟨X, 4, none⟩ = some (.slice (some ⟨g + 7, 0, none⟩) 2 2) := hX10.cell x4
  have hf10 : (((((((((((wb.alloc (.cells #[.int .i64 2, .int .i64 0, .int .i64 0, .int .i64 0, .string bX, NL] 35)).alloc (.cells #[.int .i64 2, .int .i64 0, .int .i64 0, .int .i64 0, .string bX, NL, .int .i64 1, .int .i64 0, .int .i64 2, .int .i64 (s8 lim), .string ⟨#[]⟩, NL] 35)).alloc (.cells #[.int .i64 2, .int .i64 0, .int .i64 0, .int .i64 0, .string bX, NL] 35)).alloc (.cells #[.int .i64 2, .int .i64 0, .int .i64 0, .int .i64 0, .string bM, NL] 35)).alloc (.cells #[.int .i64 2, .string bM, .int .i64 2, .int .i64 0, .int .i64 0, .int .i64 0, .string bX, NL, NL, NL, .int .i64 1, .string bY, .int .i64 2, .int .i64 0, .int .i64 0, .int .i64 0, .string bM, NL, NL, NL] 37)).alloc (.cells #[.int .i64 2, .int .i64 0, .int .i64 0, .int .i64 0, .string bM, NL] 35)).alloc (.cells #[.int .i64 2, .int .i64 0, .int .i64 0, .int .i64 0, .string bX, NL] 35)).alloc (.cells #[.int .i64 2, .int .i64 0, .int .i64 0, .int .i64 0, .string bX, NL] 35)).alloc (.cells #[.int .i64 1, .string bY, .int .i64 2, .int .i64 0, .int .i64 0, .int .i64 0, .string bM, NL, NL, NL, .int .i64 2, .string bM, .int .i64 3, .int .i64 2, .int .i64 0, .int .i64 0, .string ⟨#[]⟩, .slice (some ⟨wb.heap.size + 1 + 1 + 1 + 1 + 1 + 1 + 1, 0, none⟩) 1 1, NL, NL] 37)).alloc (.cells #[.int .i64 3, .string ⟨#[]⟩, .int .i64 4, .int .i64 16, .int .i64 0, .int .i64 0, .string ⟨#[]⟩, .slice (some ⟨wb.heap.size + 1, 0, none⟩) 2 2, .slice (some ⟨wb.heap.size + 1 + 1 + 1 + 1, 0, none⟩) 2 2, .slice (some ⟨wb.heap.size + 1 + 1 + 1 + 1 + 1 + 1 + 1 + 1, 0, none⟩) 2 2] 37))).frozen? ⟨X, 4, none⟩ = false := by rw [hX10.frozens X 4 xl]; exact xf 4
  have hp1 : (((((((((((wb.alloc (.cells #[.int .i64 2, .int .i64 0, .int .i64 0, .int .i64 0, .string bX, NL] 35)).alloc (.cells #[.int .i64 2, .int .i64 0, .int .i64 0, .int .i64 0, .string bX, NL, .int .i64 1, .int .i64 0, .int .i64 2, .int .i64 (s8 lim), .string ⟨#[]⟩, NL] 35)).alloc (.cells #[.int .i64 2, .int .i64 0, .int .i64 0, .int .i64 0, .string bX, NL] 35)).alloc (.cells #[.int .i64 2, .int .i64 0, .int .i64 0, .int .i64 0, .string bM, NL] 35)).alloc (.cells #[.int .i64 2, .string bM, .int .i64 2, .int .i64 0, .int .i64 0, .int .i64 0, .string bX, NL, NL, NL, .int .i64 1, .string bY, .int .i64 2, .int .i64 0, .int .i64 0, .int .i64 0, .string bM, NL, NL, NL] 37)).alloc (.cells #[.int .i64 2, .int .i64 0, .int .i64 0, .int .i64 0, .string bM, NL] 35)).alloc (.cells #[.int .i64 2, .int .i64 0, .int .i64 0, .int .i64 0, .string bX, NL] 35)).alloc (.cells #[.int .i64 2, .int .i64 0, .int .i64 0, .int .i64 0, .string bX, NL] 35)).alloc (.cells #[.int .i64 1, .string bY, .int .i64 2, .int .i64 0, .int .i64 0, .int .i64 0, .string bM, NL, NL, NL, .int .i64 2, .string bM, .int .i64 3, .int .i64 2, .int .i64 0, .int .i64 0, .string ⟨#[]⟩, .slice (some ⟨wb.heap.size + 1 + 1 + 1 + 1 + 1 + 1 + 1, 0, none⟩) 1 1, NL, NL] 37)).alloc (.cells #[.int .i64 3, .string ⟨#[]⟩, .int .i64 4, .int .i64 16, .int .i64 0, .int .i64 0, .string ⟨#[]⟩, .slice (some ⟨wb.heap.size + 1, 0, none⟩) 2 2, .slice (some ⟨wb.heap.size + 1 + 1 + 1 + 1, 0, none⟩) 2 2, .slice (some ⟨wb.heap.size + 1 + 1 + 1 + 1 + 1 + 1 + 1 + 1, 0, none⟩) 2 2] 37))).heap[wb.heap.size + 1]? = some (.cells #[.int .i64 2, .int .i64 0, .int .i64 0, .int .i64 0, .string bX, NL, .int .i64 1, .int .i64 0, .int .i64 2, .int .i64 (s8 lim), .string ⟨#[]⟩, NL] 35 (0, 0)) := by
    repeat (first | (refine heap_alloc_at _ _ _ ?_; simp only [World.size_alloc]; done) | (refine (Below.heap_alloc _ _ _ ?_).trans ?_; · (simp only [World.size_alloc]; omega)))
  have hp4 : (((((((((((wb.alloc (.cells #[.int .i64 2, .int .i64 0, .int .i64 0, .int .i64 0, .string bX, NL] 35)).alloc (.cells #[.int .i64 2, .int .i64 0, .int .i64 0, .int .i64 0, .string bX, NL, .int .i64 1, .int .i64 0, .int .i64 2, .int .i64 (s8 lim), .string ⟨#[]⟩, NL] 35)).alloc (.cells #[.int .i64 2, .int .i64 0, .int .i64 0, .int .i64 0, .string bX, NL] 35)).alloc (.cells #[.int .i64 2, .int .i64 0, .int .i64 0, .int .i64 0, .string bM, NL] 35)).alloc (.cells #[.int .i64 2, .string bM, .int .i64 2, .int .i64 0, .int .i64 0, .int .i64 0, .string bX, NL, NL, NL, .int .i64 1, .string bY, .int .i64 2, .int .i64 0, .int .i64 0, .int .i64 0, .string bM, NL, NL, NL] 37)).alloc (.cells #[.int .i64 2, .int .i64 0, .int .i64 0, .int .i64 0, .string bM, NL] 35)).alloc (.cells #[.int .i64 2, .int .i64 0, .int .i64 0, .int .i64 0, .string bX, NL] 35)).alloc (.cells #[.int .i64 2, .int .i64 0, .int .i64 0, .int .i64 0, .string bX, NL] 35)).alloc (.cells #[.int .i64 1, .string bY, .int .i64 2, .int .i64 0, .int .i64 0, .int .i64 0, .string bM, NL, NL, NL, .int .i64 2, .string bM, .int .i64 3, .int .i64 2, .int .i64 0, .int .i64 0, .string ⟨#[]⟩, .slice (some ⟨wb.heap.size + 1 + 1 + 1 + 1 + 1 + 1 + 1, 0, none⟩) 1 1, NL, NL] 37)).alloc (.cells #[.int .i64 3, .string ⟨#[]⟩, .int .i64 4, .int .i64 16, .int .i64 0, .int .i64 0, .string ⟨#[]⟩, .slice (some ⟨wb.heap.size + 1, 0, none⟩) 2 2, .slice (some ⟨wb.heap.size + 1 + 1 + 1 + 1, 0, none⟩) 2 2, .slice (some ⟨wb.heap.size + 1 + 1 + 1 + 1 + 1 + 1 + 1 + 1, 0, none⟩) 2 2] 37))).heap[wb.heap.size + 1 + 1 + 1 + 1]? = some (.cells #[.int .i64 2, .string bM, .int .i64 2, .int .i64 0, .int .i64 0, .int .i64 0, .string bX, NL, NL, NL, .int .i64 1, .string bY, .int .i64 2, .int .i64 0, .int .i64 0, .int .i64 0, .string bM, NL, NL, NL] 37 (0, 0)) := by
    repeat (first | (refine heap_alloc_at _ _ _ ?_; simp only [World.size_alloc]; done) | (refine (Below.heap_alloc _ _ _ ?_).trans ?_; · (simp only [World.size_alloc]; omega)))
  have hp7 : (((((((((((wb.alloc (.cells #[.int .i64 2, .int .i64 0, .int .i64 0, .int .i64 0, .string bX, NL] 35)).alloc (.cells #[.int .i64 2, .int .i64 0, .int .i64 0, .int .i64 0, .string bX, NL, .int .i64 1, .int .i64 0, .int .i64 2, .int .i64 (s8 lim), .string ⟨#[]⟩, NL] 35)).alloc (.cells #[.int .i64 2, .int .i64 0, .int .i64 0, .int .i64 0, .string bX, NL] 35)).alloc (.cells #[.int .i64 2, .int .i64 0, .int .i64 0, .int .i64 0, .string bM, NL] 35)).alloc (.cells #[.int .i64 2, .string bM, .int .i64 2, .int .i64 0, .int .i64 0, .int .i64 0, .string bX, NL, NL, NL, .int .i64 1, .string bY, .int .i64 2, .int .i64 0, .int .i64 0, .int .i64 0, .string bM, NL, NL, NL] 37)).alloc (.cells #[.int .i64 2, .int .i64 0, .int .i64 0, .int .i64 0, .string bM, NL] 35)).alloc (.cells #[.int .i64 2, .int .i64 0, .int .i64 0, .int .i64 0, .string bX, NL] 35)).alloc (.cells #[.int .i64 2, .int .i64 0, .int .i64 0, .int .i64 0, .string bX, NL] 35)).alloc (.cells #[.int .i64 1, .string bY, .int .i64 2, .int .i64 0, .int .i64 0, .int .i64 0, .string bM, NL, NL, NL, .int .i64 2, .string bM, .int .i64 3, .int .i64 2, .int .i64 0, .int .i64 0, .string ⟨#[]⟩, .slice (some ⟨wb.heap.size + 1 + 1 + 1 + 1 + 1 + 1 + 1, 0, none⟩) 1 1, NL, NL] 37)).alloc (.cells #[.int .i64 3, .string ⟨#[]⟩, .int .i64 4, .int .i64 16, .int .i64 0, .int .i64 0, .string ⟨#[]⟩, .slice (some ⟨wb.heap.size + 1, 0, none⟩) 2 2, .slice (some ⟨wb.heap.size + 1 + 1 + 1 + 1, 0, none⟩) 2 2, .slice (some ⟨wb.heap.size + 1 + 1 + 1 + 1 + 1 + 1 + 1 + 1, 0, none⟩) 2 2] 37))).heap[wb.heap.size + 1 + 1 + 1 + 1 + 1 + 1 + 1]? = some (.cells #[.int .i64 2, .int .i64 0, .int .i64 0, .int .i64 0, .string bX, NL] 35 (0, 0)) := by
    repeat (first | (refine heap_alloc_at _ _ _ ?_; simp only [World.size_alloc]; done) | (refine (Below.heap_alloc _ _ _ ?_).trans ?_; · (simp only [World.size_alloc]; omega)))
  have hp8 : (((((((((((wb.alloc (.cells #[.int .i64 2, .int .i64 0, .int .i64 0, .int .i64 0, .string bX, NL] 35)).alloc (.cells #[.int .i64 2, .int .i64 0, .int .i64 0, .int .i64 0, .string bX, NL, .int .i64 1, .int .i64 0, .int .i64 2, .int .i64 (s8 lim), .string ⟨#[]⟩, NL] 35)).alloc (.cells #[.int .i64 2, .int .i64 0, .int .i64 0, .int .i64 0, .string bX, NL] 35)).alloc (.cells #[.int .i64 2, .int .i64 0, .int .i64 0, .int .i64 0, .string bM, NL] 35)).alloc (.cells #[.int .i64 2, .string bM, .int .i64 2, .int .i64 0, .int .i64 0, .int .i64 0, .string bX, NL, NL, NL, .int .i64 1, .string bY, .int .i64 2, .int .i64 0, .int .i64 0, .int .i64 0, .string bM, NL, NL, NL] 37)).alloc (.cells #[.int .i64 2, .int .i64 0, .int .i64 0, .int .i64 0, .string bM, NL] 35)).alloc (.cells #[.int .i64 2, .int .i64 0, .int .i64 0, .int .i64 0, .string bX, NL] 35)).alloc (.cells #[.int .i64 2, .int .i64 0, .int .i64 0, .int .i64 0, .string bX, NL] 35)).alloc (.cells #[.int .i64 1, .string bY, .int .i64 2, .int .i64 0, .int .i64 0, .int .i64 0, .string bM, NL, NL, NL, .int .i64 2, .string bM, .int .i64 3, .int .i64 2, .int .i64 0, .int .i64 0, .string ⟨#[]⟩, .slice (some ⟨wb.heap.size + 1 + 1 + 1 + 1 + 1 + 1 + 1, 0, none⟩) 1 1, NL, NL] 37)).alloc (.cells #[.int .i64 3, .string ⟨#[]⟩, .int .i64 4, .int .i64 16, .int .i64 0, .int .i64 0, .string ⟨#[]⟩, .slice (some ⟨wb.heap.size + 1, 0, none⟩) 2 2, .slice (some ⟨wb.heap.size + 1 + 1 + 1 + 1, 0, none⟩) 2 2, .slice (some ⟨wb.heap.size + 1 + 1 + 1 + 1 + 1 + 1 + 1 + 1, 0, none⟩) 2 2] 37))).heap[wb.heap.size + 1 + 1 + 1 + 1 + 1 + 1 + 1 + 1]? = some (.cells #[.int .i64 1, .string bY, .int .i64 2, .int .i64 0, .int .i64 0, .int .i64 0, .string bM, NL, NL, NL, .int .i64 2, .string bM, .int .i64 3, .int .i64 2, .int .i64 0, .int .i64 0, .string ⟨#[]⟩, .slice (some ⟨wb.heap.size + 1 + 1 + 1 + 1 + 1 + 1 + 1, 0, none⟩) 1 1, NL, NL] 37 (0, 0)) := by
    repeat (first | (refine heap_alloc_at _ _ _ ?_; simp only [World.size_alloc]; done) | (refine (Below.heap_alloc _ _ _ ?_).trans ?_; · (simp only [World.size_alloc]; omega)))
  have hp9 : (((((((((((wb.alloc (.cells #[.int .i64 2, .int .i64 0, .int .i64 0, .int .i64 0, .string bX, NL] 35)).alloc (.cells #[.int .i64 2, .int .i64 0, .int .i64 0, .int .i64 0, .string bX, NL, .int .i64 1, .int .i64 0, .int .i64 2, .int .i64 (s8 lim), .string ⟨#[]⟩, NL] 35)).alloc (.cells #[.int .i64 2, .int .i64 0, .int .i64 0, .int .i64 0, .string bX, NL] 35)).alloc (.cells #[.int .i64 2, .int .i64 0, .int .i64 0, .int .i64 0, .string bM, NL] 35)).alloc (.cells #[.int .i64 2, .string bM, .int .i64 2, .int .i64 0, .int .i64 0, .int .i64 0, .string bX, NL, NL, NL, .int .i64 1, .string bY, .int .i64 2, .int .i64 0, .int .i64 0, .int .i64 0, .string bM, NL, NL, NL] 37)).alloc (.cells #[.int .i64 2, .int .i64 0, .int .i64 0, .int .i64 0, .string bM, NL] 35)).alloc (.cells #[.int .i64 2, .int .i64 0, .int .i64 0, .int .i64 0, .string bX, NL] 35)).alloc (.cells #[.int .i64 2, .int .i64 0, .int .i64 0, .int .i64 0, .string bX, NL] 35)).alloc (.cells #[.int .i64 1, .string bY, .int .i64 2, .int .i64 0, .int .i64 0, .int .i64 0, .string bM, NL, NL, NL, .int .i64 2, .string bM, .int .i64 3, .int .i64 2, .int .i64 0, .int .i64 0, .string ⟨#[]⟩, .slice (some ⟨wb.heap.size + 1 + 1 + 1 + 1 + 1 + 1 + 1, 0, none⟩) 1 1, NL, NL] 37)).alloc (.cells #[.int .i64 3, .string ⟨#[]⟩, .int .i64 4, .int .i64 16, .int .i64 0, .int .i64 0, .string ⟨#[]⟩, .slice (some ⟨wb.heap.size + 1, 0, none⟩) 2 2, .slice (some ⟨wb.heap.size + 1 + 1 + 1 + 1, 0, none⟩) 2 2, .slice (some ⟨wb.heap.size + 1 + 1 + 1 + 1 + 1 + 1 + 1 + 1, 0, none⟩) 2 2] 37))).heap[wb.heap.size + 1 + 1 + 1 + 1 + 1 + 1 + 1 + 1 + 1]? = some (.cells #[.int .i64 3, .string ⟨#[]⟩, .int .i64 4, .int .i64 16, .int .i64 0, .int .i64 0, .string ⟨#[]⟩, .slice (some ⟨wb.heap.size + 1, 0, none⟩) 2 2, .slice (some ⟨wb.heap.size + 1 + 1 + 1 + 1, 0, none⟩) 2 2, .slice (some ⟨wb.heap.size + 1 + 1 + 1 + 1 + 1 + 1 + 1 + 1, 0, none⟩) 2 2] 37 (0, 0)) := by
    repeat (first | (refine heap_alloc_at _ _ _ ?_; simp only [World.size_alloc]; done) | (refine (Below.heap_alloc _ _ _ ?_).trans ?_; · (simp only [World.size_alloc]; omega)))
  go_upto_region 7 with (first | (go_at_call 7; refine (name17_any _ _).mono ?_; rintro e1 w1 ⟨rfl, rfl⟩))
  generalize ((((((((((wb.alloc (.cells #[.int .i64 2, .int .i64 0, .int .i64 0, .int .i64 0, .string bX, NL] 35)).alloc (.cells #[.int .i64 2, .int .i64 0, .int .i64 0, .int .i64 0, .string bX, NL, .int .i64 1, .int .i64 0, .int .i64 2, .int .i64 (s8 lim), .string ⟨#[]⟩, NL] 35)).alloc (.cells #[.int .i64 2, .int .i64 0, .int .i64 0, .int .i64 0, .string bX, NL] 35)).alloc (.cells #[.int .i64 2, .int .i64 0, .int .i64 0, .int .i64 0, .string bM, NL] 35)).alloc (.cells #[.int .i64 2, .string bM, .int .i64 2, .int .i64 0, .int .i64 0, .int .i64 0, .string bX, NL, NL, NL, .int .i64 1, .string bY, .int .i64 2, .int .i64 0, .int .i64 0, .int .i64 0, .string bM, NL, NL, NL] 37)).alloc (.cells #[.int .i64 2, .int .i64 0, .int .i64 0, .int .i64 0, .string bM, NL] 35)).alloc (.cells #[.int .i64 2, .int .i64 0, .int .i64 0, .int .i64 0, .string bX, NL] 35)).alloc (.cells #[.int .i64 2, .int .i64 0, .int .i64 0, .int .i64 0, .string bX, NL] 35)).alloc (.cells #[.int .i64 1, .string bY, .int .i64 2, .int .i64 0, .int .i64 0, .int .i64 0, .string bM, NL, NL, NL, .int .i64 2, .string bM, .int .i64 3, .int .i64 2, .int .i64 0, .int .i64 0, .string ⟨#[]⟩, .slice (some ⟨wb.heap.size + 1 + 1 + 1 + 1 + 1 + 1 + 1, 0, none⟩) 1 1, NL, NL] 37)).alloc (.cells #[.int .i64 3, .string ⟨#[]⟩, .int .i64 4, .int .i64 16, .int .i64 0, .int .i64 0, .string ⟨#[]⟩, .slice (some ⟨wb.heap.size + 1, 0, none⟩) 2 2, .slice (some ⟨wb.heap.size + 1 + 1 + 1 + 1, 0, none⟩) 2 2, .slice (some ⟨wb.heap.size + 1 + 1 + 1 + 1 + 1 + 1 + 1 + 1, 0, none⟩) 2 2] 37)) = wt at hX10 hx10 hf10 hp1 hp4 hp7 hp8 hp9 ⊢
  obtain ⟨N9, hN9⟩ : ∃ n, n = wb.heap.size + 1 + 1 + 1 + 1 + 1 + 1 + 1 + 1 + 1 := ⟨_, rfl⟩
  simp only [← hN9] at hp9 ⊢
  have hks : Kb [X] wt (wt.setCell ⟨X, 4, none⟩ (.slice (some ⟨N9, 0, none⟩) 1 1)) := Kb.set _ _ _ (by simp) _
  have hX : ∀ k, wb.heap.size ≤ k → k ∉ [X] := fun k hk => by simp; omega
  have q1 := hks.heap (hX _ (by omega)) hp1
  have q4 := hks.heap (hX _ (by omega)) hp4
  have q7 := hks.heap (hX _ (by omega)) hp7
  have q8 := hks.heap (hX _ (by omega)) hp8
  have q9 := hks.heap (hX _ (by omega)) hp9
  have hbu : BoxV X [.slice (some ⟨g, 0, none⟩) 1 1, .slice (some ⟨g + 1, 0, none⟩) 1 1, NL, .slice (some ⟨g + 2, 0, none⟩) 1 1, .slice (some ⟨N9, 0, none⟩) 1 1] (wt.setCell ⟨X, 4, none⟩ (.slice (some ⟨N9, 0, none⟩) 1 1)) := ((HBX.out.ext hX10).put 4 _).cast rfl
  have h0 : Lk0 g (wt.setCell ⟨X, 4, none⟩ (.slice (some ⟨N9, 0, none⟩) 1 1)) := (Lk0.of (HLK.out.ext hX10)).kb hks (by simp; omega)
  have HEU : Hid (Ext w (wt.setCell ⟨X, 4, none⟩ (.slice (some ⟨N9, 0, none⟩) 1 1))) := Lib.hid (hks.ext (HE.out.trans hX10) (by simp; omega))
  have HSP : Hid (SPIn (wt.setCell ⟨X, 4, none⟩ (.slice (some ⟨N9, 0, none⟩) 1 1)) (bS (s8 lim)) ⟨.slice (some ⟨g, 0, none⟩) 1 1, .slice (some ⟨g + 1, 0, none⟩) 1 1, NL, .slice (some ⟨g + 2, 0, none⟩) 1 1, .slice (some ⟨N9, 0, none⟩) 1 1⟩) := Lib.hid (by
    generalize (wt.setCell ⟨X, 4, none⟩ (.slice (some ⟨N9, 0, none⟩) 1 1)) = wu at q1 q4 q7 q8 q9 h0 ⊢
    show SPIn wu (wSB [.mk 3 e0 (brC (s8 lim)) brT brE]) _
    refine h0.sp ⟨[⟨.slice (some ⟨wb.heap.size + 1, 0, none⟩) 2 2, .slice (some ⟨wb.heap.size + 1 + 1 + 1 + 1, 0, none⟩) 2 2, .slice (some ⟨wb.heap.size + 1 + 1 + 1 + 1 + 1 + 1 + 1 + 1, 0, none⟩) 2 2⟩], SlC.of_block q9 1 1 _ (by decide) (by decide) rfl, SsIn.cons (SIn.mk ?_ ?_ ?_) (SsIn.nil _)⟩
    · exact KIn.of (kvs := [NL, NL]) (SlC.of_block q1 2 2 _ (by decide) (by decide) rfl) (KsIn.cons (KIn.leaf _ _ _ _ _ _) (KsIn.cons (KIn.leaf _ _ _ _ _ _) (KsIn.nil _)))
    · exact ⟨[⟨NL, NL, NL⟩, ⟨NL, NL, NL⟩], SlC.of_block q4 2 2 _ (by decide) (by decide) rfl, SsIn.cons (SIn.mk (KIn.leaf _ _ _ _ _ _) (BIn.nil _) (BIn.nil _)) (SsIn.cons (SIn.mk (KIn.leaf _ _ _ _ _ _) (BIn.nil _) (BIn.nil _)) (SsIn.nil _))⟩
    · exact ⟨[⟨NL, NL, NL⟩, ⟨.slice (some ⟨wb.heap.size + 1 + 1 + 1 + 1 + 1 + 1 + 1, 0, none⟩) 1 1, NL, NL⟩], SlC.of_block q8 2 2 _ (by decide) (by decide) rfl, SsIn.cons (SIn.mk (KIn.leaf _ _ _ _ _ _) (BIn.nil _) (BIn.nil _)) (SsIn.cons (SIn.mk (KIn.of (kvs := [NL]) (SlC.of_block q7 1 1 _ (by decide) (by decide) rfl) (KsIn.cons (KIn.leaf _ _ _ _ _ _) (KsIn.nil _))) (BIn.nil _) (BIn.nil _)) (SsIn.nil _))⟩)
  have HBU := Lib.hid hbu
  clear hX10 hx10 hf10 hp1 hp4 hp7 hp8 hp9 hN9 hks hX q1 q4 q7 q8 q9 hbu h0 x4 xl xf HBX HLK HE
  generalize (wt.setCell ⟨X, 4, none⟩ (.slice (some ⟨N9, 0, none⟩) 1 1)) = wu at HEU HSP HBU ⊢
  clear hw8 hw9
  have HL := Lib.hid (show s8 lim = s8 lim from rfl)
  obtain ⟨L, hL⟩ : ∃ L, L = s8 lim := ⟨_, rfl⟩
  have HLL := Lib.hid hL
  simp only [← hL] at HSP ⊢
  clear hL
  go_wp2
  go_loopw [7, 8, 9, 10] (fun a b m i wr => ∃ (j : Nat) (pa pb : Option Addr) (ca cb : Nat) (xa xb : List Value) (M : Int), j ≤ n ∧ i = .int .i64 (j : Int) ∧ a = .slice pa j ca ∧ b = .slice pb j cb ∧ m = .int .i64 M ∧ -128 ≤ M ∧ M ≤ 127 ∧ Hid (OutPair wu (.slice pa j ca) xa (ones ((l.take j).map s8)) (.slice pb j cb) xb (ones (wantB L 0 (l.take j))) wr ∧ xa.length = j ∧ xb.length = j ∧ M = memB L 0 (l.take j))) (fun _ _ _ i _ => n - (intOf i).toNat)
  case atStart => exact ⟨0, none, none, 0, 0, [], [], 0, Nat.zero_le _, rfl, rfl, rfl, rfl, by omega, by omega, Lib.hid ⟨OutPair.start _ (Ext.refl _), rfl, rfl, rfl⟩⟩
  case round =>
    obtain ⟨j, pa, pb, ca, cb, xa, xb, M, hj, rfl, rfl, rfl, rfl, hM1, hM2, HO⟩ := hrel
    by_cases hlt : j < n
    · have hji : (j : Int) < (n : Int) := Int.ofNat_lt.2 hlt
      obtain ⟨q, hq⟩ : ∃ x, l[j]? = some x := ⟨_, List.getElem?_eq_getElem (by have := HN.out.1; omega)⟩
      obtain ⟨b, o, rfl, f1⟩ := HN.out.2.1 j (.int .i64 q) (by unfold i64s; rw [List.getElem?_map, hq]; rfl)
      have f2 := HO.out.1.A.ext.cell (HEU.out.cell f1)
      have z1 : b < wr.heap.size := World.block_lt_of_cell? wr _ f2
      have hjc : j < cap := by omega
      have hwq1 := (s8_conv q).1
      have hwq2 := (s8_conv q).2
      obtain ⟨y, hy⟩ : ∃ y, y = s8 q := ⟨_, rfl⟩
      have hyb := s8_bd q
      rw [← hy] at hwq1 hwq2 hyb
      have HY := Lib.hid (And.intro hy hq)
      have hyn1 := (s8_neg y hyb).1
      have hyn2 := (s8_neg y hyb).2
      have hzc1 := (s8_conv (-y)).1
      have hzc2 := (s8_conv (-y)).2
      obtain ⟨z, hz⟩ : ∃ z, z = s8 (-y) := ⟨_, rfl⟩
      have hzb := s8_bd (-y)
      rw [← hz] at hzc1 hzc2 hzb
      have HZ := Lib.hid hz
      have hyb1 := hyb.1
      have hyb2 := hyb.2
      clear hq f1 hy hz
      have hsw : wu.heap.size ≤ wr.heap.size := HO.out.1.A.ext.size
      go_upto_region 15 with (first | (at_builtin; (refine wpList_append_slc _ rfl (.tmp 59) (.tmp 62) 46 rfl wu.heap.size 23 (.slice none 0 0) 1 24 Try.underlying46 infoInts rfl (by decide) (.slice pa j ca) xa.length xa rfl (ownsRow_ext HO.out.1.A.top (by repeat first | exact Ext.refl _ | assumption | refine Ext.drew ?_ | refine Ext.drewN ?_ _ | refine Ext.extBy ?_ _ | refine Ext.alloc ?_ _ | refine Ext.setCell ?_ (by simp; try omega) _ | (refine Ext.trans ?_ (by assumption)))) _ 1 [.slice (some ⟨wr.heap.size, 0, none⟩) 1 1] rfl (SlC.fresh _ #[.slice (some ⟨wr.heap.size, 0, none⟩) 1 1] _ 1 _ (by simp) (by decide)) rfl (by simp [Value.oneCell']) (by have := HO.out.2.1; unfold maxLen; omega) (by have := HO.out.2.1; omega) (by simp; omega) ?_; intro v9 w9 hown9 hg9 hat9; obtain ⟨x9, y9, z9, rfl⟩ := own_slice3 hown9; have HP := Lib.hid (And.intro hown9 (And.intro hg9 hat9)); clear hown9 hg9 hat9)) | fail)
      have h9 := HO.out.1.push y HP.out.2.1 HP.out.1 HP.out.2.2
      have hy9 : y9 = j + 1 := by
        obtain ⟨a', c', e, -⟩ := SlC.of_owns HP.out.1
        simp at e
        rw [e.2.1, HO.out.2.1]
      subst hy9
      have HO2 := Lib.hid (And.intro h9 HO.out.2.2.1)
      have hsw9 : wu.heap.size ≤ w9.heap.size := h9.A.ext.size
      clear h9 f2 z1 hsw
      by_cases hc : y < L
      · have HC := Lib.hid hc
        go_wp2_with (first | (at_builtin; (refine wpList_append_slc _ rfl (.tmp 68) (.tmp 71) 46 rfl wu.heap.size 23 (.slice none 0 0) 1 24 Try.underlying46 infoInts rfl (by decide) (.slice pb j cb) xb.length xb rfl (ownsRow_ext HO2.out.1.B.top (by repeat first | exact Ext.refl _ | assumption | refine Ext.drew ?_ | refine Ext.drewN ?_ _ | refine Ext.extBy ?_ _ | refine Ext.alloc ?_ _ | refine Ext.setCell ?_ (by simp; try omega) _ | (refine Ext.trans ?_ (by assumption)))) _ 1 [.slice (some ⟨w9.heap.size, 0, none⟩) 1 1] rfl (SlC.fresh _ #[.slice (some ⟨w9.heap.size, 0, none⟩) 1 1] _ 1 _ (by simp) (by decide)) rfl (by simp [Value.oneCell']) (by have := HO2.out.2; unfold maxLen; omega) (by have := HO2.out.2; omega) (by simp; omega) ?_; intro v8 w8 hown8 hg8 hat8; obtain ⟨x8, y8, z8, rfl⟩ := own_slice3 hown8; have HP8 := Lib.hid (And.intro hown8 (And.intro hg8 hat8)); clear hown8 hg8 hat8)) | fail)
        have h8 := (HO2.out.1.swap.push y HP8.out.2.1 HP8.out.1 HP8.out.2.2).swap
        have hy8 : y8 = j + 1 := by
          obtain ⟨a', c', e, -⟩ := SlC.of_owns HP8.out.1
          simp at e
          rw [e.2.1, HO2.out.2]
        subst hy8
        refine ⟨⟨j + 1, x9, x8, z9, z8, xa ++ [.slice (some ⟨wr.heap.size, 0, none⟩) 1 1], xb ++ [.slice (some ⟨w9.heap.size, 0, none⟩) 1 1], y, by omega, by go_num, rfl, rfl, rfl, by omega, by omega, Lib.hid ⟨?_, by simp [HO.out.2.1], by simp [HO.out.2.2.1], ?_⟩⟩, by simp [intOf]; omega⟩
        · rw [List.take_add_one, HY.out.2, Option.toList_some, wantB_snoc, List.map_append, List.map_cons, List.map_nil, ← HY.out.1, if_pos HC.out]
          unfold ones at h8 ⊢
          rw [List.map_append, List.map_append]
          exact h8
        · rw [List.take_add_one, HY.out.2, Option.toList_some, memB_snoc, ← HY.out.1, if_pos HC.out]
      · have HC := Lib.hid hc
        have hc2 : L ≤ y := by omega
        go_wp2_with (first | (at_builtin; (refine wpList_append_slc _ rfl (.tmp 73) (.tmp 76) 46 rfl wu.heap.size 23 (.slice none 0 0) 1 24 Try.underlying46 infoInts rfl (by decide) (.slice pb j cb) xb.length xb rfl (ownsRow_ext HO2.out.1.B.top (by repeat first | exact Ext.refl _ | assumption | refine Ext.drew ?_ | refine Ext.drewN ?_ _ | refine Ext.extBy ?_ _ | refine Ext.alloc ?_ _ | refine Ext.setCell ?_ (by simp; try omega) _ | (refine Ext.trans ?_ (by assumption)))) _ 1 [.slice (some ⟨w9.heap.size, 0, none⟩) 1 1] rfl (SlC.fresh _ #[.slice (some ⟨w9.heap.size, 0, none⟩) 1 1] _ 1 _ (by simp) (by decide)) rfl (by simp [Value.oneCell']) (by have := HO2.out.2; unfold maxLen; omega) (by have := HO2.out.2; omega) (by simp; omega) ?_; intro v8 w8 hown8 hg8 hat8; obtain ⟨x8, y8, z8, rfl⟩ := own_slice3 hown8; have HP8 := Lib.hid (And.intro hown8 (And.intro hg8 hat8)); clear hown8 hg8 hat8)) | fail)
        have h8 := (HO2.out.1.swap.push M HP8.out.2.1 HP8.out.1 HP8.out.2.2).swap
        have hy8 : y8 = j + 1 := by
          obtain ⟨a', c', e, -⟩ := SlC.of_owns HP8.out.1
          simp at e
          rw [e.2.1, HO2.out.2]
        subst hy8
        refine ⟨⟨j + 1, x9, x8, z9, z8, xa ++ [.slice (some ⟨wr.heap.size, 0, none⟩) 1 1], xb ++ [.slice (some ⟨w9.heap.size, 0, none⟩) 1 1], z, by omega, by go_num, rfl, rfl, rfl, by omega, by omega, Lib.hid ⟨?_, by simp [HO.out.2.1], by simp [HO.out.2.2.1], ?_⟩⟩, by simp [intOf]; omega⟩
        · rw [List.take_add_one, HY.out.2, Option.toList_some, wantB_snoc, List.map_append, List.map_cons, List.map_nil, ← HY.out.1, if_neg HC.out, ← HO.out.2.2.2]
          unfold ones at h8 ⊢
          rw [List.map_append, List.map_append]
          exact h8
        · rw [List.take_add_one, HY.out.2, Option.toList_some, memB_snoc, ← HY.out.1, if_neg HC.out, HZ.out]
    · have hji : ¬ (j : Int) < (n : Int) := fun e => hlt (Int.ofNat_lt.1 e)
      obtain rfl : j = n := by omega
      have hA := HO.out.1.A.rows
      have hB := HO.out.1.B.rows
      have hfull : l.take j = l := by rw [HN.out.1, List.take_length]
      rw [hfull] at hA hB
      have hbx := HBU.out.ext HO.out.1.A.ext
      have x0 := hbx.cells 0 _ rfl
      have x1 := hbx.cells 1 _ rfl
      have x2 := hbx.cells 2 _ rfl
      have x3 := hbx.cells 3 _ rfl
      have x4 := hbx.cells 4 _ rfl
      have xl := hbx.lt
      have HAB := Lib.hid (And.intro hA hB)
      have HEW := Lib.hid (HEU.out.trans HO.out.1.A.ext)
      have HRUN : Hid (Calls Try.prog 10 #[.agg #[.slice (some ⟨g, 0, none⟩) 1 1, .slice (some ⟨g + 1, 0, none⟩) 1 1, .slice none 0 0, .slice (some ⟨g + 2, 0, none⟩) 1 1, .slice (some ⟨N9, 0, none⟩) 1 1], .slice pa j ca] wr fun e w'' => ∃ v' vs', e = .returned (.tuple #[v', .int .i64 0]) ∧ Hid (RowsIn w'' v' vs' (ones (wantB L 0 l)) ∧ Ext wr w'')) := Lib.hid (by
        have hx := HO.out.1.A.ext
        have hsp : SPIn wr (bS L) ⟨.slice (some ⟨g, 0, none⟩) 1 1, .slice (some ⟨g + 1, 0, none⟩) 1 1, NL, .slice (some ⟨g + 2, 0, none⟩) 1 1, .slice (some ⟨N9, 0, none⟩) 1 1⟩ := ⟨HSP.out.ins.ext hx, HSP.out.outs.ext hx, HSP.out.vars.ext hx, HSP.out.cells.ext hx, HSP.out.body.ext hx⟩
        rw [HLL.out] at hsp ⊢
        refine (run_any (bS (s8 lim)) _ _ xa _ wr hsp (ok_brB lim) HAB.out.1 ?_).mono ?_
        · intro r hr n hn
          simp only [ones, List.map_map, List.mem_map] at hr
          obtain ⟨q, hq, rfl⟩ := hr
          simp only [Function.comp, List.mem_singleton] at hn
          rw [hn]
          have := s8_bd q
          exact i64_of (by omega)
        · rintro e w'' ⟨v', vs', e1, e2, e3⟩
          rw [run_br lim l (by have := HN.out.1; omega)] at e1 e2
          exact ⟨v', vs', e1, Lib.hid ⟨e2, e3⟩⟩)
      clear hA hB hfull hbx HO hM1 hM2
      go_wp2_with (first
        | (go_at_call 10; refine HRUN.out.mono ?_; rintro e3 w3 ⟨v3, vs3, rfl, H3⟩)
        | (go_at_call 9; refine (num17_any _ _).mono ?_; rintro e6 w6 ⟨rfl, rfl⟩)
        | (go_at_call 11; refine (sameRows_any H3.out.1 (HAB.out.2.ext H3.out.2)).mono ?_; rintro e4 w4 ⟨rfl, hx4⟩; have H4 := Lib.hid hx4; clear hx4)
        | (go_at_call 12; refine (rowsNil _).mono ?_; rintro e5 w5 ⟨p5, c5, rfl, H5⟩) | fail)
      rw [HQ.out]
      exact ⟨rfl, HEW.out.trans (H3.out.2.trans (H4.out.trans H5.out))⟩
end Go.Proofs.Ytkjgghbdpmkmoaa

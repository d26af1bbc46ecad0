/-
  The walk: whether statements are not too many, nor too deep.
  Condition: the statements lie in memory off the checker's block.
-/
import Derived.Test.YtkjgghbdpmkmoaaObCk
namespace Go.Proofs.Ytkjgghbdpmkmoaa
open Go.RowKit
set_option linter.unusedSimpArgs false
set_option linter.unusedVariables false
set_option maxRecDepth 100000

theorem fitsL_step {l : List ST} {j : Nat} {s : ST} (h : l[j]? = some s) (deep c : Int) : fitsL (l.drop j) deep c = if (fitsS s deep c).2 = false then ((fitsS s deep c).1, false) else fitsL (l.drop (j + 1)) deep (fitsS s deep c).1 := by
  obtain ⟨h1, rfl⟩ := List.getElem?_eq_some_iff.1 h
  rw [List.drop_eq_getElem_cons h1, fitsL]
theorem fitsL_no {l : List ST} {j : Nat} {s : ST} {deep c d : Int} (h : l[j]? = some s) (h2 : fitsS s deep c = (d, false)) : fitsL (l.drop j) deep c = (d, false) := by
  rw [fitsL_step h, h2]; simp
theorem fitsL_yes {l : List ST} {j : Nat} {s : ST} {deep c d : Int} (h : l[j]? = some s) (h2 : fitsS s deep c = (d, true)) : fitsL (l.drop j) deep c = fitsL (l.drop (j + 1)) deep d := by
  rw [fitsL_step h, h2]; simp
theorem fitsL_end {l : List ST} {j : Nat} {deep c : Int} (h : j = l.length) : fitsL (l.drop j) deep c = (c, true) := by
  rw [h, List.drop_length, fitsL]
theorem fitsS_form (s : ST) (deep c : Int) : fitsS s deep c = if 20000 < c + 1 ∨ fitsE s.e = false then (c + 1, false) else if s.form ≠ 3 then (c + 1, true) else if (fitsB s.thn (deep + 1) (c + 1)).2 = false then ((fitsB s.thn (deep + 1) (c + 1)).1, false) else fitsB s.els (deep + 1) (fitsB s.thn (deep + 1) (c + 1)).1 := by
  cases s with
  | mk f nm e t l => exact fitsS_eq f nm e t l deep c
theorem fitsS_many {s : ST} {deep c : Int} (h : 20000 < c + 1) : fitsS s deep c = (c + 1, false) := by rw [fitsS_form, if_pos (.inl h)]
theorem fitsS_long {s : ST} {deep c : Int} (h : false = fitsE s.e) : fitsS s deep c = (c + 1, false) := by rw [fitsS_form, if_pos (.inr h.symm)]
theorem fitsS_flat {s : ST} {deep c : Int} (h1 : ¬ 20000 < c + 1) (h2 : true = fitsE s.e) (h3 : s.form ≠ 3) : fitsS s deep c = (c + 1, true) := by
  rw [fitsS_form, if_neg (by rw [← h2]; simp; exact Int.not_lt.1 h1), if_pos h3]
theorem fitsS_thn {s : ST} {deep c d : Int} (h1 : ¬ 20000 < c + 1) (h2 : true = fitsE s.e) (h3 : s.form = 3) (h4 : (d, false) = fitsB s.thn (deep + 1) (c + 1)) : fitsS s deep c = (d, false) := by
  rw [fitsS_form, if_neg (by rw [← h2]; simp; exact Int.not_lt.1 h1), if_neg (by simpa using h3), ← h4]; simp
theorem fitsS_els {s : ST} {deep c d : Int} (h1 : ¬ 20000 < c + 1) (h2 : true = fitsE s.e) (h3 : s.form = 3) (h4 : (d, true) = fitsB s.thn (deep + 1) (c + 1)) : fitsS s deep c = fitsB s.els (deep + 1) d := by
  rw [fitsS_form, if_neg (by rw [← h2]; simp; exact Int.not_lt.1 h1), if_neg (by simpa using h3), ← h4]; simp
theorem fitsB_bd (l : List ST) (deep c : Int) (h0 : 0 ≤ c) (h : c ≤ 20000) : 0 ≤ (fitsB l deep c).1 ∧ ((fitsB l deep c).2 = true → (fitsB l deep c).1 ≤ 20000) := by
  unfold fitsB
  split
  · exact ⟨h0, fun e => by cases e⟩
  · have := fitsL_bd l deep c h0 h
    exact ⟨by omega, this.2.2⟩
def RetCK (W0 : World) (x : S5) (X M : Nat) (L : List (ByteArray × Value)) (r : Int × Bool) (w : World) (e : Ending) (w' : World) : Prop :=
  e = .returned (.bool r.2) ∧ Hid (Kb [X] w w' ∧ CK W0 x X M L r.1 w')
set_option maxHeartbeats 8000000 in
theorem fits_at (W0 : World) (y : S5) (X M : Nat) (L : List (ByteArray × Value)) :
    ∀ (N : Nat) (l : List ST), SizeOf.sizeOf l < N → ∀ (v : Value) (deep c : Int) (w : World), BIn W0 v l → CK W0 y X M L c w → 0 ≤ c → c ≤ 20000 → 1 ≤ deep → deep ≤ 401 →
    Calls Try.prog 27 #[.pointer (some ⟨X, 0, none⟩), v, .int .i64 deep] w (RetCK W0 y X M L (fitsB l deep c) w) := by
  intro N
  induction N with
  | zero => intro e h; omega
  | succ N ih =>
    intro l hN v deep c w hk hck hc0 hc1 hd1 hd2
    have HIH := Lib.hid ih
    have HW := Lib.hid (And.intro hN (And.intro hk hck))
    obtain ⟨R, hR⟩ : ∃ R, R = fitsB l deep c := ⟨_, rfl⟩
    rw [← hR]
    obtain ⟨Q, hQ⟩ : ∃ Q, Q = RetCK W0 y X M L R w := ⟨_, rfl⟩
    rw [← hQ]
    have HQ := Lib.hid hQ
    have HR := Lib.hid hR
    obtain ⟨p, cap, rfl, hkc, hcm⟩ := hk.slice
    obtain ⟨n, hn⟩ : ∃ n, n = l.length := ⟨_, rfl⟩
    rw [← hn] at hkc ⊢
    have hcI : (cap : Int) ≤ 9223372036854775807 := by unfold maxLen at hcm; omega
    clear hcm
    have HN := Lib.hid hn
    clear hQ hR hn hk hck hN ih
    by_cases hB : l ≠ [] ∧ 400 < deep
    · have hR1 : Hid (R = (c, false)) := Lib.hid (by rw [HR.out]; unfold fitsB; rw [if_pos hB])
      have h1 : (0 : Int) < (n : Int) := by have := HN.out; have := List.length_pos_iff.2 hB.1; omega
      have h2 := hB.2
      clear hB
      go_enter Try.func27, Try.ntmps27
      go_wp2
      rw [HQ.out, hR1.out]
      exact ⟨rfl, Lib.hid ⟨Kb.refl _ _, HW.out.2.2⟩⟩
    have hR1 : Hid (R = fitsL l deep c) := Lib.hid (by rw [HR.out]; unfold fitsB; rw [if_neg hB])
    have hdn : Hid (0 < n → deep ≤ 400) := Lib.hid (fun e => by
      refine Int.not_lt.1 fun e2 => hB ⟨fun e3 => ?_, e2⟩
      have := HN.out
      rw [e3] at this
      simp at this
      omega)
    rcases Nat.eq_zero_or_pos n with hn0 | hn0
    · subst hn0
      have hR2 : Hid (R = (c, true)) := Lib.hid (by rw [hR1.out]; have := fitsL_end (l := l) (j := 0) (deep := deep) (c := c) HN.out; simpa using this)
      clear hB
      go_enter Try.func27, Try.ntmps27
      go_wp2
      go_loopw [18] (fun i wr => i = .int .i64 0 ∧ wr = w) (fun _ _ => 0)
      case atStart => exact ⟨rfl, rfl⟩
      case round =>
        obtain ⟨rfl, rfl⟩ := hrel
        go_wp2
        rw [HQ.out, hR2.out]
        exact ⟨rfl, Lib.hid ⟨Kb.refl _ _, HW.out.2.2⟩⟩
    have hd3 : deep ≤ 400 := hdn.out hn0
    have hd4 : ¬ 400 < deep := by omega
    have hn1 : (0 : Int) < (n : Int) := by omega
    clear hB hd2 hdn
    go_enter Try.func27, Try.ntmps27
    go_wp2
    go_loopw [18] (fun i wr => ∃ (j : Nat) (d : Int), j ≤ n ∧ i = .int .i64 (j : Int) ∧ 0 ≤ d ∧ d ≤ 20000 ∧ Hid (Kb [X] w wr ∧ CK W0 y X M L d wr) ∧ Hid (R = fitsL (l.drop j) deep d)) (fun i _ => n - (intOf i).toNat)
    case atStart => exact ⟨0, c, Nat.zero_le _, rfl, hc0, hc1, Lib.hid ⟨Kb.refl _ _, HW.out.2.2⟩, Lib.hid (by rw [hR1.out]; rfl)⟩
    case round =>
      obtain ⟨j, d, hj, rfl, hda, hdb, HS, HRR⟩ := hrel
      by_cases hlt : j < n
      · have hki : (j : Int) < (n : Int) := Int.ofNat_lt.2 hlt
        obtain ⟨s, hs⟩ : ∃ x, l[j]? = some x := ⟨_, List.getElem?_eq_getElem (by have := HN.out; omega)⟩
        have hxw : Ext W0 wr := HS.out.2.ext
        have hkw := HW.out.2.1
        rw [← HN.out] at hkw
        obtain ⟨b, o, x, rfl, hsx, hcx, hbl⟩ := hkw.at hs
        obtain ⟨hp1, hp2, hp3⟩ := hsx.parts
        obtain ⟨kv, tv, ev⟩ := x
        obtain ⟨pk, ck, e1, -, -⟩ := hp1.slice
        obtain ⟨pt, ct, e2, -, -⟩ := hp2.slice
        obtain ⟨pe, ce, e3, -, -⟩ := hp3.slice
        simp only at e1 e2 e3
        subst e1
        subst e2
        subst e3
        obtain ⟨f, hf⟩ : ∃ f, f = s.form := ⟨_, rfl⟩
        obtain ⟨nk, hnk⟩ : ∃ f, f = s.e.kids.length := ⟨_, rfl⟩
        obtain ⟨nt, hnt⟩ : ∃ f, f = s.thn.length := ⟨_, rfl⟩
        obtain ⟨ne, hne⟩ : ∃ f, f = s.els.length := ⟨_, rfl⟩
        have c0 := hxw.cell (hcx 0 _ rfl)
        have c1 := hxw.cell (hcx 1 _ rfl)
        have c2 := hxw.cell (hcx 2 _ rfl)
        have c3 := hxw.cell (hcx 3 _ rfl)
        have c4 := hxw.cell (hcx 4 _ rfl)
        have c5 := hxw.cell (hcx 5 _ rfl)
        have c6 := hxw.cell (hcx 6 _ rfl)
        have c7 := hxw.cell (hcx 7 _ rfl)
        have c8 := hxw.cell (hcx 8 _ rfl)
        have c9 := hxw.cell (hcx 9 _ rfl)
        rw [Nat.add_zero] at c0
        have hbl2 := Nat.lt_of_lt_of_le hbl hxw.size
        have HX := Lib.hid (And.intro hs (And.intro hp1 (And.intro hp2 hp3)))
        have HL := Lib.hid (And.intro hf (And.intro hnk (And.intro hnt hne)))
        simp only [← hf, ← hnk, ← hnt, ← hne] at c0 c7 c8 c9
        have hjc : j < cap := by omega
        have HV := Lib.hid (show eVal s.e (.slice pk s.e.kids.length ck) = .agg #[.int .i64 s.e.form, .int .i64 s.e.sub, .int .i64 s.e.kind, .int .i64 s.e.n, .string s.e.name, .slice pk nk ck] by rw [hnk]; rfl)
        clear hs hxw hsx hp1 hp2 hp3 hcx hbl hkw hf hnk hnt hne
        go_upto_region 6 with fail
        have hby : BoxV wr.heap.size [.int .i64 f, .string s.name, .int .i64 s.e.form, .int .i64 s.e.sub, .int .i64 s.e.kind, .int .i64 s.e.n, .string s.e.name, .slice pk nk ck, .slice pt nt ct, .slice pe ne ce] (wr.alloc (.cells #[.int .i64 f, .string s.name, .int .i64 s.e.form, .int .i64 s.e.sub, .int .i64 s.e.kind, .int .i64 s.e.n, .string s.e.name, .slice pk nk ck, .slice pt nt ct, .slice pe ne ce] 37)) := BoxV.of_row (heap_alloc_last wr _)
        have hxy : Ext wr (wr.alloc (.cells #[.int .i64 f, .string s.name, .int .i64 s.e.form, .int .i64 s.e.sub, .int .i64 s.e.kind, .int .i64 s.e.n, .string s.e.name, .slice pk nk ck, .slice pt nt ct, .slice pe ne ce] 37)) := (Ext.refl wr).alloc _
        have hXY : wr.heap.size ≠ X := fun e1 => absurd HS.out.2.box.lt (by rw [← e1]; exact Nat.lt_irrefl _)
        generalize (wr.alloc (.cells #[.int .i64 f, .string s.name, .int .i64 s.e.form, .int .i64 s.e.sub, .int .i64 s.e.kind, .int .i64 s.e.n, .string s.e.name, .slice pk nk ck, .slice pt nt ct, .slice pe ne ce] 37)) = wy at hby hxy ⊢
        generalize wr.heap.size = Y at hby hXY ⊢
        have hck := HS.out.2.next hxy
        have g6 := hck.box.cells 6 _ rfl
        have gf := hck.box.fz 6
        have gl := hck.box.lt
        have HC7 := hck.count (d + 1)
        have hb7 := hby.other (Ne.symm hXY) 6 (.int .i64 (d + 1))
        have hk7 : Kb [X] w (wy.setCell ⟨X, 6, none⟩ (.int .i64 (d + 1))) := (HS.out.1.trans (Kb.of_ext hxy)).trans (Kb.set (S := [X]) wy X 6 (by simp) _)
        have HZ := Lib.hid (And.intro HC7 (And.intro hb7 hk7))
        clear HC7 hb7 hk7
        go_upto_region 7 with fail
        obtain ⟨HC7, hb7, hk7⟩ := HZ.out
        clear HZ
        generalize wy.setCell ⟨X, 6, none⟩ (.int .i64 (d + 1)) = w7 at HC7 hb7 hk7 ⊢
        have HY := Lib.hid (And.intro (And.intro hk7 HC7) (And.intro (show Y ∉ [X] by simpa using hXY) (True.intro)))
        have g6 := HC7.box.cells 6 _ rfl
        have gl := HC7.box.lt
        have d0 := hb7.cells 0 _ rfl
        have d2 := hb7.cells 2 _ rfl
        have d3 := hb7.cells 3 _ rfl
        have d4 := hb7.cells 4 _ rfl
        have d5 := hb7.cells 5 _ rfl
        have d6 := hb7.cells 6 _ rfl
        have d7 := hb7.cells 7 _ rfl
        have d8 := hb7.cells 8 _ rfl
        have d9 := hb7.cells 9 _ rfl
        have hyl := hb7.lt
        obtain ⟨ok, hok⟩ : ∃ r, r = fitsE s.e := ⟨_, rfl⟩
        have HOK := Lib.hid hok
        have HF : Hid (Calls Try.prog 42 #[.agg #[.int .i64 s.e.form, .int .i64 s.e.sub, .int .i64 s.e.kind, .int .i64 s.e.n, .string s.e.name, .slice pk nk ck]] w7 (RetQ ok w7)) := Lib.hid (by
          rw [hok, ← HV.out]
          exact fitsE_any s.e _ w7 (HX.out.2.1.ext HC7.ext))
        clear hby hxy hXY hck hb7 hk7 HC7 hok c0 c1 c2 c3 c4 c5 c6 c7 c8 c9 gf
        by_cases hmany : 20000 < d + 1
        · go_wp2
          rw [HQ.out, HRR.out, fitsL_no HX.out.1 (fitsS_many hmany)]
          exact ⟨rfl, HY.out.1⟩
        have HM := Lib.hid hmany
        cases ok with
        | false =>
          go_wp2_with (first | (go_at_call 42; refine HF.out.mono ?_; rintro e1 w1 ⟨rfl, H1⟩; have q0 := H1.out.cell d0; have q8 := H1.out.cell d8; have hl1 : Y < w1.heap.size := Nat.lt_of_lt_of_le hyl H1.out.size) | fail)
          rw [HQ.out, HRR.out, fitsL_no HX.out.1 (fitsS_long HOK.out)]
          exact ⟨rfl, Lib.hid ⟨HY.out.1.1.trans (Kb.of_ext H1.out), HY.out.1.2.next H1.out⟩⟩
        | true =>
          by_cases hf3 : f = 3
          · subst hf3
            have hd5 : d + 1 ≤ 20000 := Int.not_lt.1 hmany
            have HI1 : Hid (∀ w1, Ext w7 w1 → Calls Try.prog 27 #[.pointer (some ⟨X, 0, none⟩), .slice pt nt ct, .int .i64 (deep + 1)] w1 (RetCK W0 y X M L (fitsB s.thn (deep + 1) (d + 1)) w1)) := Lib.hid (fun w1 hx1 => by
              have hn1 := s.size_thn
              have hn2 := size_at HX.out.1
              have hn3 := HW.out.1
              have ht := HX.out.2.2.1
              rw [← HL.out.2.2.1] at ht
              exact HIH.out s.thn (by omega) _ _ _ w1 ht (HY.out.1.2.next hx1) (by omega) (by omega) (by omega) (by omega))
            have HI2 : Hid (∀ a w1, CK W0 y X M L a w1 → 0 ≤ a → a ≤ 20000 → Calls Try.prog 27 #[.pointer (some ⟨X, 0, none⟩), .slice pe ne ce, .int .i64 (deep + 1)] w1 (RetCK W0 y X M L (fitsB s.els (deep + 1) a) w1)) := Lib.hid (fun a w1 hk1 ha0 ha1 => by
              have hn1 := s.size_els
              have hn2 := size_at HX.out.1
              have hn3 := HW.out.1
              have ht := HX.out.2.2.2
              rw [← HL.out.2.2.2] at ht
              exact HIH.out s.els (by omega) _ _ _ w1 ht hk1 ha0 ha1 (by omega) (by omega))
            have h33 : ((3 : Int) == 3) = true := rfl
            have hbdt := fitsB_bd s.thn (deep + 1) (d + 1) (by omega) hd5
            obtain ⟨r2, hr2⟩ : ∃ r, r = fitsB s.thn (deep + 1) (d + 1) := ⟨_, rfl⟩
            rw [← hr2] at HI1 hbdt
            have HR2 := Lib.hid hr2
            clear hr2
            rcases r2 with ⟨a2, ok2⟩
            cases ok2 with
            | false =>
              clear hbdt
              go_wp2_with (first | (go_at_call 27; refine (HI1.out _ H1.out).mono ?_; rintro e2 w2 ⟨rfl, H2⟩; have q9 := H2.out.1.cell HY.out.2.1 (H1.out.cell d9); have hl2 : Y < w2.heap.size := Nat.lt_of_lt_of_le hl1 H2.out.1.size) | (go_at_call 42; refine HF.out.mono ?_; rintro e1 w1 ⟨rfl, H1⟩; have q0 := H1.out.cell d0; have q8 := H1.out.cell d8; have hl1 : Y < w1.heap.size := Nat.lt_of_lt_of_le hyl H1.out.size) | fail)
              rw [HQ.out, HRR.out, fitsL_no HX.out.1 (fitsS_thn (Int.not_lt.2 HM.out) HOK.out HL.out.1.symm HR2.out)]
              exact ⟨rfl, Lib.hid ⟨(HY.out.1.1.trans (Kb.of_ext H1.out)).trans H2.out.1, H2.out.2⟩⟩
            | true =>
              have ha0 : 0 ≤ a2 := hbdt.1
              have ha1 : a2 ≤ 20000 := hbdt.2 rfl
              have hbde := fitsB_bd s.els (deep + 1) a2 ha0 ha1
              obtain ⟨r3, hr3⟩ : ∃ r, r = fitsB s.els (deep + 1) a2 := ⟨_, rfl⟩
              have HI3 : Hid (∀ w1, CK W0 y X M L a2 w1 → Calls Try.prog 27 #[.pointer (some ⟨X, 0, none⟩), .slice pe ne ce, .int .i64 (deep + 1)] w1 (RetCK W0 y X M L r3 w1)) := Lib.hid (fun w1 hk1 => by rw [hr3]; exact HI2.out a2 w1 hk1 ha0 ha1)
              rw [← hr3] at hbde
              have HR3 := Lib.hid hr3
              clear hr3 hbdt
              rcases r3 with ⟨a3, ok3⟩
              cases ok3 with
              | false =>
                clear hbde
                go_wp2_with (first | (go_at_call 27; refine (HI3.out _ H2.out.2).mono ?_; rintro e3 w3 ⟨rfl, H3⟩) | (go_at_call 27; refine (HI1.out _ H1.out).mono ?_; rintro e2 w2 ⟨rfl, H2⟩; have q9 := H2.out.1.cell HY.out.2.1 (H1.out.cell d9); have hl2 : Y < w2.heap.size := Nat.lt_of_lt_of_le hl1 H2.out.1.size) | (go_at_call 42; refine HF.out.mono ?_; rintro e1 w1 ⟨rfl, H1⟩; have q0 := H1.out.cell d0; have q8 := H1.out.cell d8; have hl1 : Y < w1.heap.size := Nat.lt_of_lt_of_le hyl H1.out.size) | fail)
                rw [HQ.out, HRR.out, fitsL_no HX.out.1 ((fitsS_els (Int.not_lt.2 HM.out) HOK.out HL.out.1.symm HR2.out).trans HR3.out.symm)]
                exact ⟨rfl, Lib.hid ⟨((HY.out.1.1.trans (Kb.of_ext H1.out)).trans H2.out.1).trans H3.out.1, H3.out.2⟩⟩
              | true =>
                have hb0 : 0 ≤ a3 := hbde.1
                have hb1 : a3 ≤ 20000 := hbde.2 rfl
                clear hbde
                go_wp2_with (first | (go_at_call 27; refine (HI3.out _ H2.out.2).mono ?_; rintro e3 w3 ⟨rfl, H3⟩) | (go_at_call 27; refine (HI1.out _ H1.out).mono ?_; rintro e2 w2 ⟨rfl, H2⟩; have q9 := H2.out.1.cell HY.out.2.1 (H1.out.cell d9); have hl2 : Y < w2.heap.size := Nat.lt_of_lt_of_le hl1 H2.out.1.size) | (go_at_call 42; refine HF.out.mono ?_; rintro e1 w1 ⟨rfl, H1⟩; have q0 := H1.out.cell d0; have q8 := H1.out.cell d8; have hl1 : Y < w1.heap.size := Nat.lt_of_lt_of_le hyl H1.out.size) | fail)
                refine ⟨⟨j + 1, a3, by omega, by go_num, hb0, hb1, Lib.hid ⟨((HY.out.1.1.trans (Kb.of_ext H1.out)).trans H2.out.1).trans H3.out.1, H3.out.2⟩, Lib.hid ?_⟩, by simp [intOf]; omega⟩
                rw [HRR.out, fitsL_yes HX.out.1 ((fitsS_els (Int.not_lt.2 HM.out) HOK.out HL.out.1.symm HR2.out).trans HR3.out.symm)]
          · have hfb : (f == 3) = false := by simpa using hf3
            have HF3 := Lib.hid hf3
            clear hf3
            go_wp2_with (first | (go_at_call 42; refine HF.out.mono ?_; rintro e1 w1 ⟨rfl, H1⟩; have q0 := H1.out.cell d0; have q8 := H1.out.cell d8; have hl1 : Y < w1.heap.size := Nat.lt_of_lt_of_le hyl H1.out.size) | fail)
            refine ⟨⟨j + 1, d + 1, by omega, by go_num, by omega, by omega, Lib.hid ⟨HY.out.1.1.trans (Kb.of_ext H1.out), HY.out.1.2.next H1.out⟩, Lib.hid ?_⟩, by simp [intOf]; omega⟩
            rw [HRR.out, fitsL_yes HX.out.1 (fitsS_flat (Int.not_lt.2 HM.out) HOK.out (by rw [← HL.out.1]; exact HF3.out))]
      · have hki : ¬ (j : Int) < (n : Int) := fun e => hlt (Int.ofNat_lt.1 e)
        obtain rfl : j = n := by omega
        go_wp2
        rw [HQ.out, HRR.out, fitsL_end HN.out]
        exact ⟨rfl, HS⟩
end Go.Proofs.Ytkjgghbdpmkmoaa

/-
  The reader's walk over one number, on bytes of any kind.
  Conditions: what the library's variables hold.
  What the parser keeps on bytes of any kind: the reader's box, the formula's, the rows that are told, the row under way.
  What the library's variables hold, where a number is read.
  The walk of Parse over a text that is no good formula's.
  Conditions: at most 20000 bytes; what the library's variables hold.
-/
import Derived.Test.YtlikmdeplpldlaaDoorJCpA
import Derived.Test.YtlikmdeplpldlaaDoorCnfL
import Derived.Test.YtlikmdeplpldlaaDoorCnfPr
import Derived.Test.YtlikmdeplpldlaaDoorJCpB
namespace Go.Proofs.YtlikmdeplpldlaaDoor
open Go.RowKit
set_option linter.unusedSimpArgs false
set_option linter.unusedVariables false
set_option maxRecDepth 100000

/-- What the library's variables hold that Atoi reads. -/
def ErrC (w : World) (b : Nat) : Prop := ∃ ev, w.cell? ⟨b, 0, none⟩ = some ev ∧ (ev = .nilIface ∨ ∃ te pe, ev = .iface te pe)
structure LibW (w : World) : Prop where
  v : LibV w
  e1 : ErrC w (Tryd.laysAT_ren.g 15)
  e2 : ErrC w (Tryd.laysAT_ren.g 16)
theorem LibW.ext {w w' : World} (h : LibW w) (hx : Ext w w') : LibW w' :=
  ⟨h.v.ext hx, let ⟨ev, h1, h2⟩ := h.e1; ⟨ev, hx.cell h1, h2⟩, let ⟨ev, h1, h2⟩ := h.e2; ⟨ev, hx.cell h1, h2⟩⟩
theorem atoi_w (s : ByteArray) (hs : s.size ≤ 1000000) (w : World) (hT : LibW w) :
    Calls Tryd.prog 44 #[.string s] w fun e w' => ∃ q ev, e = .returned (.tuple #[.int .i64 q, ev]) ∧ Ext w w' ∧ ((ev = .nilIface ∧ Lib.atoiAll s.data.toList = .ok q) ∨ ∃ t p, ev = .iface t p) := by
  cases h : Lib.atoiAll s.data.toList with
  | ok q =>
    refine (Any.strconv_Atoi_ok { Tryd.laysAT with } s (by omega) q h w).mono ?_
    rintro e w' ⟨rfl, hw⟩
    refine ⟨_, _, rfl, ?_, .inl ⟨rfl, rfl⟩⟩
    rcases hw with rfl | ⟨t, rfl⟩
    · exact Ext.refl _
    · exact Lib.bytesWorld_below _ _ _
  | «syntax» =>
    obtain ⟨ev, h1, h2⟩ := hT.e1
    refine (Any.strconv_Atoi_syntax { Tryd.laysAT with } s (by omega) h ev w h1 h2).mono ?_
    rintro e w' ⟨N, rfl, -, -, hE⟩
    exact ⟨_, _, rfl, hE, .inr ⟨_, _, rfl⟩⟩
  | range =>
    obtain ⟨ev, h1, h2⟩ := hT.e2
    refine (Any.strconv_Atoi_range { Tryd.laysAT with } s (by omega) h ev w h1 h2).mono ?_
    rintro e w' ⟨N, rfl, -, -, hE⟩
    exact ⟨_, _, rfl, hE, .inr ⟨_, _, rfl⟩⟩
/-- What one number leaves. -/
def NumW (X g : Nat) (bs : List UInt8) (bad : Bool) (w : World) (e : Ending) (w' : World) : Prop :=
  ∃ q p' n' c' bs' bad', e = .returned (.int .i64 q) ∧ Kb [X] w w' ∧ BoxV X [.slice p' n' c', .bool bad'] w' ∧ PcA w' g p' n' c' bs' ∧ bs'.length ≤ bs.length ∧ (bad' = false → bad = false ∧ bs'.length < bs.length ∧ -100000000 ≤ q ∧ q ≤ 100000000)
theorem PcA.zero (w : World) (g o c : Nat) (hc : c ≤ maxLen) : PcA w g (some ⟨g, o, none⟩) 0 c [] := .inr ⟨o, rfl, ⟨rfl, Nat.zero_le _, hc, fun i hi => absurd hi (Nat.not_lt_zero _)⟩⟩
theorem numW_of {X g : Nat} {bs bs' : List UInt8} {bad b0 bv : Bool} {w w4 : World} {q : Int} {p pe : Option Addr} {n c ne ce : Nat} (hB : BoxV X [.slice p n c, .bool b0] w4) (hK : Kb [X] w w4) (hP : PcA w4 g pe ne ce bs') (hg : g ≠ X) (hl : bs'.length ≤ bs.length) (hq : bv = false → bad = false ∧ bs'.length < bs.length ∧ -100000000 ≤ q ∧ q ≤ 100000000) :
    NumW X g bs bad w (.returned (.int .i64 q)) ((w4.setCell ⟨X, 1, none⟩ (.bool bv)).setCell ⟨X, 0, none⟩ (.slice pe ne ce)) := by
  have k1 : Kb [X] w4 (w4.setCell ⟨X, 1, none⟩ (.bool bv)) := Kb.set w4 X 1 (by simp) _
  have k2 : Kb [X] (w4.setCell ⟨X, 1, none⟩ (.bool bv)) ((w4.setCell ⟨X, 1, none⟩ (.bool bv)).setCell ⟨X, 0, none⟩ (.slice pe ne ce)) := Kb.set _ X 0 (by simp) _
  refine ⟨q, pe, ne, ce, bs', bv, rfl, (hK.trans k1).trans k2, (hB.put 1 (.bool bv)).put 0 (.slice pe ne ce), hP.kb (k1.trans k2) (by simpa using hg), hl, hq⟩
set_option maxHeartbeats 8000000 in
set_option maxRecDepth 100000 in
theorem number_w (X g : Nat) (p : Option Addr) (n c : Nat) (bs : List UInt8) (bad : Bool) (W w : World) (hb : BoxV X [.slice p n c, .bool bad] w) (hP : PcA w g p n c bs) (hn : bs.length ≤ 1000000) (hg : g ≠ X) (hT : LibW W) (hx : Ext W w) (hX : W.heap.size ≤ X) :
    Calls Tryd.prog 37 #[.pointer (some ⟨X, 0, none⟩)] w (NumW X g bs bad w) := by
  obtain ⟨Q, hQ⟩ : ∃ Q, Q = NumW X g bs bad w := ⟨_, rfl⟩
  rw [← hQ]
  have HQ := Lib.hid hQ
  obtain ⟨k0, hk0, ek⟩ := trim_drop bs
  obtain ⟨ts, hts⟩ : ∃ ts, ts = Lib.trimLeftS bs [32, 10] := ⟨_, rfl⟩
  have hTL := trimA g p n c bs w hP
  rw [← hts] at hTL
  have HTL := Lib.hid hTL
  have HTS : Hid (ts.length ≤ bs.length ∧ ts.length ≤ 1000000 ∧ (∀ b, ts[0]? = some b → ([32, 10] : List UInt8).contains b = false) ∧ g ≠ X ∧ LibW W ∧ Ext W w ∧ W.heap.size ≤ X) := by
    have h1 : ts.length ≤ bs.length := by rw [hts, ek, List.length_drop]; omega
    exact Lib.hid ⟨h1, by omega, by rw [hts]; exact trim_head bs, hg, hT, hx, hX⟩
  have HB := Lib.hid hb
  have p0 := hb.cells 0 _ rfl
  have p1 := hb.cells 1 _ rfl
  have hlt := hb.lt
  have z0 := hb.fz 0
  have z1 := hb.fz 1
  clear hTL hb hP hn hg hT hx hX hk0 ek hts hQ
  go_enter Tryd.func37, Tryd.ntmps37
  go_upto_region 2 with (go_at_call 42; refine HTL.out.mono ?_; rintro e w1 ⟨p1', n1, c1, rfl, hE1, hv1⟩; have r0 := hE1.cell p0; have r1 := hE1.cell p1; have f0 := (HB.out.ext hE1).fz 0; have hl1' := Nat.lt_of_lt_of_le hlt hE1.size; have HE1 := Lib.hid hE1; have HV1 := Lib.hid hv1; clear p0 p1 hE1 hlt z0 z1 hv1)
  have hB2 := (HB.out.ext HE1.out).put 0 (.slice p1' n1 c1)
  have hS2 : Kb [X] w1 (w1.setCell ⟨X, 0, none⟩ (.slice p1' n1 c1)) := Kb.set (S := [X]) w1 X 0 (by simp) _
  have hK2 : Kb [X] w (w1.setCell ⟨X, 0, none⟩ (.slice p1' n1 c1)) := (Kb.of_ext HE1.out).trans hS2
  have hW2 := hK2.ext HTS.out.2.2.2.2.2.1 (fun k hk => by simp at hk; subst hk; exact HTS.out.2.2.2.2.2.2)
  have hT2 := HTS.out.2.2.2.2.1.ext hW2
  have hV2 : (p1' = none ∧ n1 = 0 ∧ c1 = 0 ∧ ts = []) ∨ (0 < n1 ∧ ∃ o, p1' = some ⟨g, o, none⟩ ∧ RdA (w1.setCell ⟨X, 0, none⟩ (.slice p1' n1 c1)) g o n1 c1 ts) := by
    rcases HV1.out with h | ⟨h0, o, ho, h⟩
    · exact .inl h
    · exact .inr ⟨h0, o, ho, h.kb hS2 (by simp; exact HTS.out.2.2.2.1)⟩
  clear r0 r1 f0 hl1' HE1 HTL HB HV1 hS2
  generalize w1.setCell ⟨X, 0, none⟩ (.slice p1' n1 c1) = w2 at hB2 hK2 hW2 hT2 hV2 ⊢
  have hlt := hB2.lt
  have p0 := hB2.cells 0 _ rfl
  have z0 := hB2.fz 0
  have z1 := hB2.fz 1
  rcases hV2 with ⟨rfl, rfl, rfl, hnil⟩ | ⟨hn1, o1, rfl, hR2⟩
  · have p1 := hB2.cells 1 _ rfl
    replace p0 : w2.cell? ⟨X, 0, none⟩ = some (.slice none 0 0) := p0
    replace p1 : w2.cell? ⟨X, 1, none⟩ = some (.bool bad) := p1
    have H2 := Lib.hid (And.intro hB2 (And.intro hK2 (And.intro hW2 hT2)))
    clear hB2 hK2 hW2 hT2
    go_upto_region 3 with (go_at_call 43; refine (indexAny_no none 0 _).mono ?_; rintro e w3 ⟨rfl, hE3⟩; have r0 := hE3.cell p0; have r1 := hE3.cell p1; have HE3 := Lib.hid hE3; clear p0 p1 z0 z1 hlt hE3)
    have hcv := run_convert_bytes_zero (P := Tryd.prog) w3 64 5 Tryd.underlying64 Tryd.underlying5 none 0 9 Tryd.underlying9
    have HAT := Lib.hid (atoi_w ByteArray.empty (by decide) w3 (H2.out.2.2.2.ext HE3.out))
    have H3 := Lib.hid (And.intro (H2.out.1.ext HE3.out) (H2.out.2.1.trans (Kb.of_ext HE3.out)))
    clear H2 HE3
    go_upto_region 6 with (go_at_call 44; refine HAT.out.mono ?_; rintro e w4 ⟨q, ev, rfl, hE4, hq⟩; have HQ4 := Lib.hid hq; have HE4 := Lib.hid hE4; clear r0 r1 hE4 hq)
    obtain ⟨et, ep, rfl⟩ : ∃ t p, ev = .iface t p := by
      rcases HQ4.out with ⟨-, h⟩ | h
      · cases h
      · exact h
    have hB4 := H3.out.1.ext HE4.out
    have hK4 := H3.out.2.trans (Kb.of_ext HE4.out)
    have p0 := hB4.cells 0 _ rfl
    have p1 := hB4.cells 1 _ rfl
    have z1 := hB4.fz 1
    have z0 := hB4.fz 0
    have hlt := hB4.lt
    replace p0 : w4.cell? ⟨X, 0, none⟩ = some (.slice none 0 0) := p0
    replace p1 : w4.cell? ⟨X, 1, none⟩ = some (.bool bad) := p1
    have hB5 := (hB4.put 1 (.bool true)).put 0 (.slice none 0 0)
    have hK5 := (hK4.trans (Kb.set w4 X 1 (by simp) (.bool true))).trans (Kb.set (S := [X]) (w4.setCell ⟨X, 1, none⟩ (.bool true)) X 0 (by simp) (.slice none 0 0))
    have H5 := Lib.hid (And.intro hB5 hK5)
    clear hB4 hK4 hB5 hK5 H3 HAT HE4 hcv
    cases bad
    all_goals
      go_wp2
      rw [HQ.out]
      exact ⟨q, none, 0, 0, [], true, rfl, H5.out.2, H5.out.1, .inl ⟨rfl, rfl, rfl, rfl⟩, Nat.zero_le _, by simp⟩
  · rcases index_pos ts (by rw [hR2.len]; exact hn1) HTS.out.2.2.1 with hix | ⟨l, hl1, hln, hix⟩
    · skip
      have p1 := hB2.cells 1 _ rfl
      replace p0 : w2.cell? ⟨X, 0, none⟩ = some (.slice (some ⟨g, o1, none⟩) n1 c1) := p0
      replace p1 : w2.cell? ⟨X, 1, none⟩ = some (.bool bad) := p1
      have hnc : n1 ≤ c1 := hR2.le
      have hmx : (c1 : Int) ≤ 9223372036854775807 := by have := hR2.max; unfold maxLen at this; omega
      have hIA := indexA g o1 n1 c1 ts w2 hR2 hT2.v
      rw [hix] at hIA
      have HIA := Lib.hid hIA
      have H2 := Lib.hid (And.intro hB2 (And.intro hK2 (And.intro hR2 hT2)))
      clear hIA hB2 hK2 hW2 hT2 hR2 hix
      go_upto_region 3 with (go_at_call 43; refine HIA.out.mono ?_; rintro e w3 ⟨rfl, hE3⟩; have r0 := hE3.cell p0; have r1 := hE3.cell p1; have HE3 := Lib.hid hE3; clear p0 p1 z0 z1 hlt hE3)
      have hR3 := H2.out.2.2.1.ext HE3.out
      have hLen : ts.length = n1 := hR3.len
      have hn0 : ¬ (n1 : Int) < 0 := by omega
      have hcv := run_convert_bytes_back (P := Tryd.prog) w3 64 9 5 ⟨g, o1, none⟩ c1 ts Tryd.underlying64 Tryd.underlying5 Tryd.underlying9 (hR3.str ts [] (by simp))
      rw [hLen] at hcv
      have hl8 : (ts : List UInt8).length = n1 := hLen
      obtain ⟨tx, htx⟩ : ∃ t : ByteArray, t = ⟨(ts : List UInt8).toArray⟩ := ⟨_, rfl⟩
      rw [← htx] at hcv
      have HAT := Lib.hid (atoi_w tx (by have := HTS.out.2.1; rw [htx]; simp [ByteArray.size]; omega) w3 (H2.out.2.2.2.ext HE3.out))
      have H3 := Lib.hid (And.intro (H2.out.1.ext HE3.out) (H2.out.2.1.trans (Kb.of_ext HE3.out)))
      have HR3 := Lib.hid (And.intro hR3 (And.intro hLen (And.intro hl8 htx)))
      clear H2 HE3 hR3 hLen hl8 htx HIA
      go_upto_region 6 with (go_at_call 44; refine HAT.out.mono ?_; rintro e w4 ⟨q, ev, rfl, hE4, hq⟩; have HQ4 := Lib.hid hq; have HE4 := Lib.hid hE4; clear r0 r1 hE4 hq)
      have hR4 := HR3.out.1.ext HE4.out
      have hB4 := H3.out.1.ext HE4.out
      have H4 := Lib.hid (And.intro hB4 (And.intro (H3.out.2.trans (Kb.of_ext HE4.out)) (And.intro hR4 HR3.out)))
      have p0 := hB4.cells 0 _ rfl
      have p1 := hB4.cells 1 _ rfl
      have z1 := hB4.fz 1
      have z0 := hB4.fz 0
      have hlt := hB4.lt
      replace p0 : w4.cell? ⟨X, 0, none⟩ = some (.slice (some ⟨g, o1, none⟩) n1 c1) := p0
      replace p1 : w4.cell? ⟨X, 1, none⟩ = some (.bool bad) := p1
      clear hB4 hR4 H3 HR3 HAT HE4 hcv
      have HF : Hid (∀ bs' pe ne ce bv, PcA w4 g pe ne ce bs' → bs'.length ≤ bs.length → (bv = false → bad = false ∧ bs'.length < bs.length ∧ -100000000 ≤ q ∧ q ≤ 100000000) → Q (.returned (.int .i64 q)) ((w4.setCell ⟨X, 1, none⟩ (.bool bv)).setCell ⟨X, 0, none⟩ (.slice pe ne ce))) := Lib.hid fun bs' pe ne ce bv h1 h2 h3 => by
        rw [HQ.out]
        exact numW_of H4.out.1 H4.out.2.1 h1 HTS.out.2.2.2.1 h2 h3
      have HE : Hid (PcA w4 g (some ⟨g, o1 + n1, none⟩) 0 (c1 - n1) [] ∧ PcA w4 g (some ⟨g, o1, none⟩) 0 0 [] ∧ 0 < bs.length) := Lib.hid ⟨PcA.zero _ _ _ _ (by have := H4.out.2.2.1.max; omega), PcA.zero _ _ _ _ (Nat.zero_le _), by have := HTS.out.1; have := H4.out.2.2.2.2.1; omega⟩
      rcases HQ4.out with ⟨rfl, hat⟩ | ⟨et, ep, rfl⟩
      · have HAT : Hid (n1 ≤ 8 → -100000000 ≤ q ∧ q ≤ 100000000) := Lib.hid fun h => atoi_eight _ q (by rw [H4.out.2.2.2.2.2.2]; have := H4.out.2.2.2.2.2.1; simpa using by omega) hat
        clear hat
        cases bad
        · go_wp2
          · exact HF.out _ _ _ _ _ HE.out.2.1 (Nat.zero_le _) (fun h => ⟨by simp, HE.out.2.2, HAT.out (by have := of_decide_eq_false h; omega)⟩)
          · exact HF.out _ _ _ _ _ HE.out.1 (Nat.zero_le _) (fun h => ⟨by simp, HE.out.2.2, HAT.out (by have := of_decide_eq_false h; omega)⟩)
        · go_wp2
          · exact HF.out _ _ _ _ _ HE.out.2.1 (Nat.zero_le _) (by simp)
          · exact HF.out _ _ _ _ _ HE.out.1 (Nat.zero_le _) (by simp)
      · cases bad
        all_goals go_wp2
        all_goals first
          | exact HF.out _ _ _ _ _ HE.out.2.1 (Nat.zero_le _) (by simp)
          | exact HF.out _ _ _ _ _ HE.out.1 (Nat.zero_le _) (by simp)
    · rw [hR2.len] at hln
      have p1 := hB2.cells 1 _ rfl
      replace p0 : w2.cell? ⟨X, 0, none⟩ = some (.slice (some ⟨g, o1, none⟩) n1 c1) := p0
      replace p1 : w2.cell? ⟨X, 1, none⟩ = some (.bool bad) := p1
      have hnc : n1 ≤ c1 := hR2.le
      have hmx : (c1 : Int) ≤ 9223372036854775807 := by have := hR2.max; unfold maxLen at this; omega
      have hIA := indexA g o1 n1 c1 ts w2 hR2 hT2.v
      rw [hix] at hIA
      have HIA := Lib.hid hIA
      have H2 := Lib.hid (And.intro hB2 (And.intro hK2 (And.intro hR2 hT2)))
      clear hIA hB2 hK2 hW2 hT2 hR2 hix
      go_upto_region 3 with (go_at_call 43; refine HIA.out.mono ?_; rintro e w3 ⟨rfl, hE3⟩; have r0 := hE3.cell p0; have r1 := hE3.cell p1; have HE3 := Lib.hid hE3; clear p0 p1 z0 z1 hlt hE3)
      have hR3 := H2.out.2.2.1.ext HE3.out
      have hLen : ts.length = n1 := hR3.len
      have hl0 : ¬ (l : Int) < 0 := by omega
      have hcv := run_convert_bytes_back (P := Tryd.prog) w3 64 9 5 ⟨g, o1, none⟩ c1 (ts.take l) Tryd.underlying64 Tryd.underlying5 Tryd.underlying9 (hR3.str (ts.take l) (ts.drop l) (by simp))
      rw [List.length_take, hLen, Nat.min_eq_left (Nat.le_of_lt hln)] at hcv
      have hl8 : ((ts.take l) : List UInt8).length = l := by rw [List.length_take, hLen]; omega
      obtain ⟨tx, htx⟩ : ∃ t : ByteArray, t = ⟨((ts.take l) : List UInt8).toArray⟩ := ⟨_, rfl⟩
      rw [← htx] at hcv
      have HAT := Lib.hid (atoi_w tx (by have := HTS.out.2.1; rw [htx]; simp [ByteArray.size]; omega) w3 (H2.out.2.2.2.ext HE3.out))
      have H3 := Lib.hid (And.intro (H2.out.1.ext HE3.out) (H2.out.2.1.trans (Kb.of_ext HE3.out)))
      have HR3 := Lib.hid (And.intro hR3 (And.intro hLen (And.intro hl8 htx)))
      clear H2 HE3 hR3 hLen hl8 htx HIA
      go_upto_region 6 with (go_at_call 44; refine HAT.out.mono ?_; rintro e w4 ⟨q, ev, rfl, hE4, hq⟩; have HQ4 := Lib.hid hq; have HE4 := Lib.hid hE4; clear r0 r1 hE4 hq)
      have hR4 := HR3.out.1.ext HE4.out
      have hB4 := H3.out.1.ext HE4.out
      have H4 := Lib.hid (And.intro hB4 (And.intro (H3.out.2.trans (Kb.of_ext HE4.out)) (And.intro hR4 HR3.out)))
      have p0 := hB4.cells 0 _ rfl
      have p1 := hB4.cells 1 _ rfl
      have z1 := hB4.fz 1
      have z0 := hB4.fz 0
      have hlt := hB4.lt
      replace p0 : w4.cell? ⟨X, 0, none⟩ = some (.slice (some ⟨g, o1, none⟩) n1 c1) := p0
      replace p1 : w4.cell? ⟨X, 1, none⟩ = some (.bool bad) := p1
      clear hB4 hR4 H3 HR3 HAT HE4 hcv
      have HF : Hid (∀ bs' pe ne ce bv, PcA w4 g pe ne ce bs' → bs'.length ≤ bs.length → (bv = false → bad = false ∧ bs'.length < bs.length ∧ -100000000 ≤ q ∧ q ≤ 100000000) → Q (.returned (.int .i64 q)) ((w4.setCell ⟨X, 1, none⟩ (.bool bv)).setCell ⟨X, 0, none⟩ (.slice pe ne ce))) := Lib.hid fun bs' pe ne ce bv h1 h2 h3 => by
        rw [HQ.out]
        exact numW_of H4.out.1 H4.out.2.1 h1 HTS.out.2.2.2.1 h2 h3
      have HE : Hid (PcA w4 g (some ⟨g, o1 + l, none⟩) (n1 - l) (c1 - l) (ts.drop l) ∧ (ts.drop l).length ≤ bs.length ∧ (ts.drop l).length < bs.length) := Lib.hid ⟨.inr ⟨_, rfl, H4.out.2.2.1.drop l (by omega)⟩, by have := HTS.out.1; have := H4.out.2.2.2.2.1; rw [List.length_drop]; omega, by have := HTS.out.1; have := H4.out.2.2.2.2.1; rw [List.length_drop]; omega⟩
      rcases HQ4.out with ⟨rfl, hat⟩ | ⟨et, ep, rfl⟩
      · have HAT : Hid (l ≤ 8 → -100000000 ≤ q ∧ q ≤ 100000000) := Lib.hid fun h => atoi_eight _ q (by rw [H4.out.2.2.2.2.2.2]; have := H4.out.2.2.2.2.2.1; simpa using by omega) hat
        clear hat
        cases bad
        · go_wp2
          exact HF.out _ _ _ _ _ HE.out.1 HE.out.2.1 (fun h => ⟨by simp, HE.out.2.2, HAT.out (by have := of_decide_eq_false h; omega)⟩)
        · go_wp2
          exact HF.out _ _ _ _ _ HE.out.1 HE.out.2.1 (by simp)
      · cases bad
        all_goals go_wp2
        all_goals exact HF.out _ _ _ _ _ HE.out.1 HE.out.2.1 (by simp)
end Go.Proofs.YtlikmdeplpldlaaDoor
namespace Go.Proofs.YtlikmdeplpldlaaDoor
open Go.RowKit
set_option linter.unusedSimpArgs false
set_option linter.unusedVariables false
set_option maxRecDepth 100000

structure PB (W : World) (X F D g : Nat) (x : Int) (p : Option Addr) (n c : Nat) (bs : List UInt8) (bad : Bool) (ov : Value) (vs : List Value) (os : List (List Int)) (pv : Value) (ps : List Int) (w : World) : Prop where
  fr : FR W (pv.ownBlock.toList ++ [X, F, D, g]) ov vs os w
  pd : w.ownsRow W.heap.size 3 1 pv ps.length (i64s ps)
  po : ∀ b, pv.ownBlock = some b → b ∉ [X, F, D, g]
  rd : BoxV X [.slice p n c, .bool bad] w
  at' : PcA w g p n c bs
  c : BoxV F [.int .i64 x, ov] w
  d : w.heap[D]? = some (.cells #[.int .i64 0, .slice none 0 0] 24 (0, 0))
  ns : ∀ k ∈ [X, F, D, g], W.heap.size ≤ k
  lg : g < w.heap.size
  xf : X ≠ F
  xd : X ≠ D
  fd : F ≠ D
  gx : g ≠ X
  gf : g ≠ F
  gd : g ≠ D
section
variable {W w w' w2 : World} {X F D g n c n' c' : Nat} {p p' : Option Addr} {bad bad' : Bool} {x : Int} {bs bs' : List UInt8} {ov ov2 pv pv2 : Value} {vs xs : List Value} {os rs : List (List Int)} {ps : List Int}
theorem PB.next (h : PB W X F D g x p n c bs bad ov vs os pv ps w) (hx : Ext w w') : PB W X F D g x p n c bs bad ov vs os pv ps w' :=
  { h with fr := h.fr.next hx, pd := ownsRow_ext h.pd hx, rd := h.rd.ext hx, at' := h.at'.ext hx, c := h.c.ext hx, d := ext_block hx h.d, lg := Nat.lt_of_lt_of_le h.lg hx.size }
theorem PB.lts (h : PB W X F D g x p n c bs bad ov vs os pv ps w) : ∀ k ∈ [X, F, D, g], k < w.heap.size := fun k hk => by
  simp at hk
  rcases hk with rfl | rfl | rfl | rfl
  · exact h.rd.lt
  · exact h.c.lt
  · exact (Array.getElem?_eq_some_iff.1 h.d).1
  · exact h.lg
theorem PB.nsp (h : PB W X F D g x p n c bs bad ov vs os pv ps w) : ∀ k ∈ pv.ownBlock.toList ++ [X, F, D, g], W.heap.size ≤ k := fun k hk => by
  rcases List.mem_append.1 hk with e | e
  · exact (h.pd.lt k (Option.mem_toList.1 e)).1
  · exact h.ns k e
theorem PB.num (h : PB W X F D g x p n c bs bad ov vs os pv ps w) (hk : Kb [X] w w') (hb : BoxV X [.slice p' n' c', .bool bad'] w') (hR : PcA w' g p' n' c' bs') : PB W X F D g x p' n' c' bs' bad' ov vs os pv ps w' := by
  have hX : X ∉ pv.ownBlock.toList := fun e => h.po X (Option.mem_toList.1 e) (by simp)
  exact { h with fr := h.fr.kb hk (fun k hk1 => by simp at hk1; simp [hk1]) h.nsp, pd := hk.row h.pd (fun b hb e => h.po b e (by simp at hb; simp [hb])), rd := hb, at' := hR, c := h.c.kb hk (by simpa using Ne.symm h.xf), d := hk.heap (by simpa using Ne.symm h.xd) h.d, lg := Nat.lt_of_lt_of_le h.lg hk.size }
theorem PB.number (h : PB W X F D g x p n c bs bad ov vs os pv ps w) (hT : LibW W) (hn : bs.length ≤ 1000000) :
    Calls Tryd.prog 37 #[.pointer (some ⟨X, 0, none⟩)] w fun e w' => ∃ q, e = .returned (.int .i64 q) ∧ Hid (∃ p' n' c' bs' bad', PB W X F D g x p' n' c' bs' bad' ov vs os pv ps w' ∧ bs'.length ≤ bs.length ∧ (bad' = false → bad = false ∧ bs'.length < bs.length ∧ -100000000 ≤ q ∧ q ≤ 100000000)) := by
  refine (number_w X g p n c bs bad W w h.rd h.at' hn h.gx hT h.fr.ext (h.ns X (by simp))).mono ?_
  rintro e w' ⟨q, p', n', c', bs', bad', rfl, hk, hb, hR, hl, hq⟩
  exact ⟨q, rfl, Lib.hid ⟨p', n', c', bs', bad', h.num hk hb hR, hl, hq⟩⟩
theorem PB.add (h : PB W X F D g x p n c bs bad ov vs os pv ps w) (q : Int) (hg : w.grownBy w2 pv.ownBlock) (hown : w2.ownsRow W.heap.size 3 1 pv2 (ps.length + 1) (i64s ps ++ [.int .i64 q])) (hat : pv2.ownBlock = pv.ownBlock ∨ pv2.ownBlock = some w.heap.size) : PB W X F D g x p n c bs bad ov vs os pv2 (ps ++ [q]) w2 := by
  have hk : Kb pv.ownBlock.toList w w2 := Kb.grown hg (fun g hg => Option.mem_toList.2 hg)
  have hn : ∀ k ∈ [X, F, D, g], k ∉ pv.ownBlock.toList := fun k hk1 hk2 => h.po k (Option.mem_toList.1 hk2) hk1
  have hnew : ∀ b, pv2.ownBlock = some b → pv.ownBlock = some b ∨ w.heap.size ≤ b := fun b hb => by
    rcases hat with e | e
    · rw [e] at hb; exact .inl hb
    · rw [e] at hb; simp at hb; exact .inr (by omega)
  have f1 : FR W (pv2.ownBlock.toList ++ (pv.ownBlock.toList ++ [X, F, D, g])) ov vs os w := h.fr.mono fun k hk => by
    rcases List.mem_append.1 hk with e | e
    · rcases hnew k (Option.mem_toList.1 e) with e | e
      · exact .inl (List.mem_append_left _ (Option.mem_toList.2 e))
      · exact .inr e
    · exact .inl e
  have f2 := f1.kb hk (fun k hk => List.mem_append_right _ (List.mem_append_left _ hk)) (fun k hk => by
    rcases List.mem_append.1 hk with e | e
    · exact (hown.lt k (Option.mem_toList.1 e)).1
    · exact h.nsp k e)
  refine { h with fr := f2.mono (fun k hk => .inl ?_), pd := by simpa [i64s] using hown, po := fun b hb hs => ?_, rd := h.rd.kb hk (hn X (by simp)), at' := h.at'.kb hk (hn g (by simp)), c := h.c.kb hk (hn F (by simp)), d := hk.heap (hn D (by simp)) h.d, lg := Nat.lt_of_lt_of_le h.lg hk.size }
  · rcases List.mem_append.1 hk with e | e
    · exact List.mem_append_left _ e
    · exact List.mem_append_right _ (List.mem_append_right _ e)
  · rcases hnew b hb with e | e
    · exact h.po b e hs
    · have := h.lts b hs; omega
theorem PB.push (h : PB W X F D g x p n c bs bad ov vs os pv ps w) (hg : w.grownBy w2 ov.ownBlock) (hown : w2.ownsRow W.heap.size 36 1 ov2 (vs.length + 1) (vs ++ [pv])) (hat : ov2.ownBlock = ov.ownBlock ∨ ov2.ownBlock = some w.heap.size) :
    BoxV F [.int .i64 x, ov] w2 ∧ PB W X F D g x p n c bs bad ov2 (vs ++ [pv]) (os ++ [ps]) (.slice none 0 0) [] (w2.setCell ⟨F, 1, none⟩ ov2) := by
  have hk : Kb ov.ownBlock.toList w w2 := Kb.grown hg (fun g hg => Option.mem_toList.2 hg)
  have f0 : FR W [X, F, D, g] ov vs os w := h.fr.mono fun k hk => .inl (List.mem_append_right _ hk)
  have hn : ∀ k ∈ [X, F, D, g], k ∉ ov.ownBlock.toList := fun k hk1 hk2 => f0.off k (Option.mem_toList.1 hk2) hk1
  have hf := f0.push (xs := [pv]) (rs := [ps]) rfl (rows1 ⟨h.pd, fun b hb => ⟨h.po b hb, fun e => h.fr.off b e (List.mem_append_left _ (Option.mem_toList.2 hb))⟩⟩) h.lts hg hown hat
  have hc : BoxV F [.int .i64 x, ov] w2 := h.c.kb hk (hn F (by simp))
  have hC : Kb [F] w2 (w2.setCell ⟨F, 1, none⟩ ov2) := Kb.set w2 F 1 (by simp) ov2
  refine ⟨hc, ?_⟩
  exact { h with fr := hf.kb hC (by simp) h.ns, pd := own_nil _ _ _ _, po := fun b hb => by simp [Value.ownBlock] at hb, rd := (h.rd.kb hk (hn X (by simp))).kb hC (by simpa using h.xf), at' := (h.at'.kb hk (hn g (by simp))).kb hC (by simpa using h.gf), c := (hc.set 1 ov2 (by simp)).cast rfl, d := hC.heap (by simpa using Ne.symm h.fd) (hk.heap (hn D (by simp)) h.d), lg := Nat.lt_of_lt_of_le h.lg (Nat.le_trans hk.size hC.size) }
end
end Go.Proofs.YtlikmdeplpldlaaDoor
namespace Go.Proofs.YtlikmdeplpldlaaDoor
open Go.RowKit
set_option linter.unusedSimpArgs false
set_option linter.unusedVariables false
set_option maxRecDepth 100000

def ParseN (W : World) (e : Ending) (w' : World) : Prop :=
  e = .returned (.tuple #[.agg #[.int .i64 0, .slice none 0 0], .int .i64 0, .int .i64 40]) ∧ Ext W w'
theorem RdA.of_own {w : World} {base g n cap : Nat} {bs : List UInt8} (h : OwnM w base g n cap bs) : RdA w g 0 n cap bs :=
  ⟨h.len, h.le, h.max, fun i hi => by
    have hl : i < bs.length := by rw [h.len]; exact hi
    rw [Nat.zero_add]
    refine h.cells i _ ?_
    simp [Lib.byteCells, hl, Lib.getD_lt_sl bs i 0 hl]⟩
/-- CutPrefix on bytes of any kind. -/
theorem cutA (g g2 n c m d : Nat) (bs pre : List UInt8) (w : World) (h : RdA w g 0 n c bs) (h2 : RdA w g2 0 m d pre) (hp : 0 < pre.length) :
    Calls Tryd.prog 36 #[.slice (some ⟨g, 0, none⟩) n c, .slice (some ⟨g2, 0, none⟩) m d] w fun e w' => ∃ p1 n1 c1 ok, e = .returned (.tuple #[.slice p1 n1 c1, .bool ok]) ∧ w' = w ∧ ∃ bs1, PcA w g p1 n1 c1 bs1 ∧ bs1.length ≤ bs.length ∧ (ok = true → bs ≠ []) := by
  refine (Any.bytes_CutPrefix_all { Tryd.laysCP with } (some ⟨g, 0, none⟩) (some ⟨g2, 0, none⟩) n c m d (numsOf bs) (numsOf pre) w (by unfold numsOf; rw [List.length_map, h.len]) (by unfold numsOf; rw [List.length_map, h2.len]) h.le h.ints h2.ints).mono ?_
  rintro e w' ⟨rfl, rfl⟩
  rw [bytesOf_nums, bytesOf_nums]
  have hv : Lib.trimPrefixV (some ⟨g, 0, none⟩) n c (numsOf bs) (numsOf pre) = Lib.bytesTrimPrefix g 0 n c (numsOf bs) (numsOf pre) := by
    cases hp2 : pre with
    | nil => rw [hp2] at hp; simp at hp
    | cons y r => rfl
  rw [hv]
  unfold Lib.bytesTrimPrefix
  rw [bytesOf_nums, bytesOf_nums]
  have hn := h.len
  cases hh : Lib.hasPrefix bs pre
  · rw [if_neg (by simp)]
    exact ⟨_, _, _, _, rfl, rfl, bs, .inr ⟨0, rfl, h⟩, Nat.le_refl _, by simp⟩
  · rw [if_pos rfl]
    have hne : bs ≠ [] := by
      rintro rfl
      cases pre with
      | nil => simp at hp
      | cons y r => simp [Lib.hasPrefix] at hh
    have hle : pre.length ≤ n := by rw [← hn]; exact Lib.hasPrefix_le hh
    unfold Lib.sliceFrom
    have e1 : (numsOf pre).length = pre.length := by unfold numsOf; rw [List.length_map]
    rw [e1]
    have hc := h.le
    by_cases hcp : c = pre.length
    · rw [if_pos hcp]
      refine ⟨_, _, _, _, rfl, rfl, [], .inr ⟨0, rfl, ⟨by simp; omega, by omega, by omega, fun i hi => by omega⟩⟩, by simp, fun _ => hne⟩
    · rw [if_neg hcp]
      refine ⟨_, _, _, _, rfl, rfl, bs.drop pre.length, .inr ⟨0 + pre.length, rfl, h.drop _ hle⟩, by simp, fun _ => hne⟩
/-- Its own text tells that it is none. -/
theorem text_no (s : ByteArray) (x : Int) (cv : Value) (vs : List Value) (rs : List (List Int)) (w : World) (hx0 : -100000000 ≤ x) (hx1 : x ≤ 100000000) (h : RowsIn w cv vs rs) (hs : szF rs ≤ 200000) (htab : Lib.TabIs Tryd.prog w "internal/strconv.uint64pow10" .u64 Lib.pow10Tab) (hno : ∀ x rs, goodF x rs → s.data.toList ≠ textF x rs) (hne : s.data.toList ≠ []) :
    Calls Tryd.prog 21 #[.agg #[.int .i64 x, cv]] w fun e w' => ∃ t : ByteArray, e = .returned (.string t) ∧ (t.toList == s.toList) = false ∧ Ext w w' := by
  have key : ∀ l : List UInt8, s.data.toList ≠ l → (((⟨l.toArray⟩ : ByteArray).toList == s.toList) = false) := fun l hl => by
    rw [Lib.toList_data, Lib.toList_data]
    simpa using fun e => hl (by simpa using e.symm)
  by_cases hx : x ≤ 200000
  · refine (textT_any x cv vs rs w hx (by omega) h hs htab).mono ?_
    rintro e w' ⟨rfl, hE⟩
    refine ⟨_, rfl, key _ ?_, hE⟩
    split
    · rename_i hc
      exact hno x rs ⟨hx, hc, hs⟩
    · exact hne
  · refine (textT_big x cv vs rs w (by omega) (by omega) h hs).mono ?_
    rintro e w' ⟨rfl, hE⟩
    exact ⟨_, rfl, key [] hne, hE⟩
theorem szF_len2 (l : List (List Int)) : l.length ≤ szF l := by
  induction l with
  | nil => exact Nat.le_refl _
  | cons c l ih => simp only [szF, List.length_cons]; omega
theorem szF_snoc (l : List (List Int)) (c : List Int) : szF (l ++ [c]) = szF l + c.length + 1 := by
  rw [szF_append]; simp [szF]; omega
set_option maxHeartbeats 16000000 in
theorem parse_no (s : ByteArray) (w : World) (hs : s.size ≤ 20000) (hno : ∀ x rs, goodF x rs → s.data.toList ≠ textF x rs) (htab : Lib.TabIs Tryd.prog w "internal/strconv.uint64pow10" .u64 Lib.pow10Tab) (hT : LibW w) :
    Calls Tryd.prog 23 #[.string s] w (ParseN w) := by
  have hmf : ∀ (fn : Fn) (first cap : Array Value) (w : World), (Instr.makeFunc fn first cap).run Tryd.prog w = .ok (.func fn first cap) w := fun _ _ _ _ => rfl
  obtain ⟨Q, hQ⟩ : ∃ Q, Q = ParseN w := ⟨_, rfl⟩
  rw [← hQ]
  have HQ := Lib.hid hQ
  obtain ⟨tb, htb⟩ : ∃ t, t = s.data.toList := ⟨_, rfl⟩
  have hst : s = ⟨tb.toArray⟩ := by rw [htb]
  have hsz : s.size = tb.length := by rw [htb, Array.length_toList]; rfl
  have hsz2 : (s.size : Int) ≤ 20000 := by omega
  have hlen : tb.length ≤ 20000 := by omega
  have H0 := Lib.hid (And.intro hno (And.intro htab hT))
  have HT := Lib.hid (And.intro htb (And.intro hst hsz))
  have hE1 : Ext w (w.alloc (.cells #[.int .i64 0, .slice none 0 0] 24)) := (Ext.refl w).alloc _
  have hD1 := heap_alloc_last w (.cells #[.int .i64 0, .slice none 0 0] 24)
  have H1 := Lib.hid (And.intro hE1 hD1)
  clear hQ hs hno htab hT htb hst hsz hE1 hD1
  go_enter Tryd.func23, Tryd.ntmps23
  go_upto_region 3 with fail
  obtain ⟨D, hD⟩ : ∃ D, D = w.heap.size := ⟨_, rfl⟩
  rw [← hD] at H1 ⊢
  generalize w.alloc (.cells #[.int .i64 0, .slice none 0 0] 24) = w1 at H1 ⊢
  have HD := Lib.hid hD
  clear hD
  obtain ⟨cap, w2, hcv, hown, hx2⟩ := conv_bytes (P := Tryd.prog) w1 9 64 5 tb w.heap.size Tryd.underlying9 Tryd.underlying64 Tryd.underlying5 H1.out.1.size (by unfold maxLen; omega)
  rw [← HT.out.2.1] at hcv
  have hR2 := RdA.of_own hown
  obtain ⟨g, hg⟩ : ∃ g, g = w1.heap.size := ⟨_, rfl⟩
  obtain ⟨m, hm⟩ : ∃ m, m = tb.length := ⟨_, rfl⟩
  rw [← hg, ← hm] at hcv hR2
  have hDg : D < g := by rw [hg]; exact (Array.getElem?_eq_some_iff.1 H1.out.2).1
  have hgl : g < w2.heap.size := by rw [hg]; exact hown.lt
  have hE3 : Ext w2 (w2.alloc (.cells #[.int .u8 112, .int .u8 32, .int .u8 99, .int .u8 110, .int .u8 102, .int .u8 32] 5 (6, 7))) := (Ext.refl w2).alloc _
  have hR3 := hR2.ext hE3
  have hP3 := RdAt.lit w2 [112, 32, 99, 110, 102, 32] #[.int .u8 112, .int .u8 32, .int .u8 99, .int .u8 110, .int .u8 102, .int .u8 32] 5 (6, 7) w2.heap.size rfl (by decide) rfl (by unfold maxLen; simp)
  have hCP := cutA g w2.heap.size m cap 6 6 tb [112, 32, 99, 110, 102, 32] _ hR3 ⟨hP3.len, hP3.le, hP3.max, hP3.cells⟩ (by decide)
  have HCP := Lib.hid hCP
  have kc := Lib.run_convert_bytes_const (P := Tryd.prog) w2 64 5 #[.int .u8 112, .int .u8 32, .int .u8 99, .int .u8 110, .int .u8 102, .int .u8 32] 6 6 Tryd.underlying64 Tryd.underlying5
  replace kc : (convert 64 64 (.slice (some ⟨w2.heap.size, 0, none⟩) 6 6)).run Tryd.prog (w2.alloc (.cells #[.int .u8 112, .int .u8 32, .int .u8 99, .int .u8 110, .int .u8 102, .int .u8 32] 5)) = .ok (.slice (some ⟨w2.heap.size, 0, none⟩) 6 6) (w2.alloc (.cells #[.int .u8 112, .int .u8 32, .int .u8 99, .int .u8 110, .int .u8 102, .int .u8 32] 5 (6, 7))) := kc
  have hg3 : g < (w2.alloc (.cells #[.int .u8 112, .int .u8 32, .int .u8 99, .int .u8 110, .int .u8 102, .int .u8 32] 5 (6, 7))).heap.size := by rw [World.size_alloc]; omega
  have H3 := Lib.hid (And.intro (H1.out.1.trans (hx2.trans hE3)) (And.intro (ext_block (hx2.trans hE3) H1.out.2) (And.intro hDg hg3)))
  clear hDg hg3 hgl
  clear hx2 hm hown hR2 hE3 hR3 hP3 hCP hg H1
  go_upto_region 4 with (go_at_call 36; refine HCP.out.mono ?_; rintro e w' ⟨p1, n1, c1, ok, rfl, hw, hPc⟩; have HPC := Lib.hid hPc; clear hPc; rw [hw])
  clear hw kc hcv HCP
  generalize w2.alloc (.cells #[.int .u8 112, .int .u8 32, .int .u8 99, .int .u8 110, .int .u8 102, .int .u8 32] 5 (6, 7)) = w3 at H3 HPC ⊢
  have hX3 := BoxV.of_row (heap_alloc_last w3 (.cells #[.slice p1 n1 c1, .bool (!ok)] 71))
  have hE4 : Ext w3 (w3.alloc (.cells #[.slice p1 n1 c1, .bool (!ok)] 71)) := (Ext.refl w3).alloc _
  obtain ⟨X, hX⟩ : ∃ X, X = w3.heap.size := ⟨_, rfl⟩
  have hg3 : g < X := by rw [hX]; exact H3.out.2.2.2
  rw [← hX] at hX3
  have H4 := Lib.hid (And.intro (H3.out.1.trans hE4) (And.intro hX3 (And.intro (ext_block hE4 H3.out.2.1) (And.intro hX hg3))))
  have HPC4 : Hid (∃ bs1, PcA (w3.alloc (.cells #[.slice p1 n1 c1, .bool (!ok)] 71)) g p1 n1 c1 bs1 ∧ bs1.length ≤ tb.length ∧ (ok = true → tb ≠ [])) := let ⟨b1, h1, h2⟩ := HPC.out; Lib.hid ⟨b1, h1.ext hE4, h2⟩
  clear hX3 hE4 hg3 HPC
  go_upto_region 5 with fail
  rw [← hX]
  generalize w3.alloc (.cells #[.slice p1 n1 c1, .bool (!ok)] 71) = w4 at H4 HPC4 ⊢
  clear hX
  obtain ⟨bs1, hPc4⟩ := HPC4.out
  have hXw : w.heap.size ≤ X := by rw [H4.out.2.2.2.1]; exact H3.out.1.size
  have hN1 := number_w X g p1 n1 c1 bs1 (!ok) w w4 H4.out.2.1 hPc4.1 (by have := hPc4.2.1; omega) (by have := H4.out.2.2.2.2; omega) H0.out.2.2 H4.out.1 hXw
  have HN1 := Lib.hid hN1
  have HL1 := Lib.hid hPc4.2
  have HXW := Lib.hid hXw
  clear hN1 hPc4 HPC4 hXw
  go_upto_region 7 with (first | (go_at_call 37; refine HN1.out.mono ?_; rintro e w5 ⟨x, hk5⟩; obtain ⟨p5, n5, c5, bs5, bad5, rfl, hk5⟩ := hk5; have HK5 := Lib.hid hk5; clear hk5) | (refine wpList_store_last rfl 24 (.tmp 9) (.tmp 35) rfl _ _ _ _ rfl rfl (by simp) (by kernel_rfl) (by kernel_rfl) (by kernel_rfl) ?_))
  have hE6 : Ext w5 (w5.alloc (.cells #[.int .i64 x, .slice none 0 0] 24)) := (Ext.refl w5).alloc _
  have hF6 := BoxV.of_row (heap_alloc_last w5 (.cells #[.int .i64 x, .slice none 0 0] 24))
  obtain ⟨F, hF⟩ : ∃ F, F = w5.heap.size := ⟨_, rfl⟩
  rw [← hF] at hF6 ⊢
  have hPS : PB w X F D g x p5 n5 c5 bs5 bad5 (.slice none 0 0) [] [] (.slice none 0 0) [] (w5.alloc (.cells #[.int .i64 x, .slice none 0 0] 24)) := by
    obtain ⟨k1, k2, k3, -, -⟩ := HK5.out
    obtain ⟨a1, a2, a4, a5, a6⟩ := H4.out
    have hDg := H3.out.2.2.1
    have hDw := HD.out
    have hXw := HXW.out
    have hX4 := a2.lt
    have h45 := k1.size
    have hXF : X < F := by omega
    have hgW : w.heap.size ≤ g := by omega
    refine { fr := FR.nil w _ ((k1.ext a1 (fun k hk => by simp at hk; omega)).trans hE6), pd := own_nil _ _ _ _, po := fun b hb => by simp [Value.ownBlock] at hb, rd := k2.ext hE6, at' := k3.ext hE6, c := hF6, d := ext_block hE6 (k1.heap (by simp; omega) a4), ns := fun k hk => ?_, lg := by rw [World.size_alloc]; omega, xf := by omega, xd := by omega, fd := by omega, gx := by omega, gf := by omega, gd := by omega }
    simp at hk
    rcases hk with rfl | rfl | rfl | rfl <;> omega
  have HL5 : Hid (bs5.length ≤ 20000 ∧ (bad5 = false → tb ≠ [] ∧ -100000000 ≤ x ∧ x ≤ 100000000)) := by
    obtain ⟨-, -, -, h4, h5⟩ := HK5.out
    refine Lib.hid ⟨by have := HL1.out.1; omega, fun e => ?_⟩
    obtain ⟨h6, -, h7⟩ := h5 e
    exact ⟨HL1.out.2 (by simpa using h6), h7⟩
  have HPS := Lib.hid hPS
  clear hE6 hF6 hPS HN1 HK5
  generalize w5.alloc (.cells #[.int .i64 x, .slice none 0 0] 24) = w6 at HPS ⊢
  clear hF H4 H3 HD HL1 HXW
  have HN2 := Lib.hid (HPS.out.number H0.out.2.2 (by have := HL5.out.1; omega))
  go_upto_region 8 with (go_at_call 37; refine HN2.out.mono ?_; rintro e w7 ⟨cnt, rfl, HPS7⟩)
  go_wp2
  clear HN2 HPS
  have HX : Hid (∀ b, (b = false → bad5 = false) → b = false → tb ≠ [] ∧ -100000000 ≤ x ∧ x ≤ 100000000) := Lib.hid fun b h1 h2 => HL5.out.2 (h1 h2)
  go_loopg [11] 20001 (fun gk i wr => ∃ (p : Option Addr) (n c : Nat) (bs : List UInt8) (bad : Bool) (b1 b2 b3 : Nat) (ba : Option Addr) (vs : List Value) (os : List (List Int)), i = .int .i64 os.length ∧ Hid (PB w X F D g x p n c bs bad (.slice ba b2 b3) vs os (.slice none 0 0) [] wr) ∧ Hid (szF os + bs.length ≤ 20000 + (if bad then 1 else 0) ∧ (bad = false → bs.length < gk ∧ tb ≠ [] ∧ -100000000 ≤ x ∧ x ≤ 100000000)))
  case atStart =>
    obtain ⟨p7, n7, c7, bs7, bad7, h1, h2, h3⟩ := HPS7.out
    have h4 := HL5.out
    exact ⟨p7, n7, c7, bs7, bad7, 0, _, _, _, [], [], rfl, Lib.hid h1, Lib.hid ⟨by simp [szF]; omega, fun e => ⟨by omega, h4.2 (h3 e).1⟩⟩⟩
  case round =>
    obtain ⟨p0, n0, c0, bs0, bad0, -, b2, b3, ba, vs, os, rfl, H, HN⟩ := hrel
    have p1 := H.out.rd.cells 1 _ rfl
    have p2 := H.out.c.cells 0 _ rfl
    have p3 := H.out.c.cells 1 _ rfl
    have hlX := H.out.rd.lt
    have hos : os.length ≤ 20001 := by have := szF_len2 os; have := HN.out.1; split at this <;> omega
    have H9 := H
    cases bad0 with
    | true =>
      by_cases hji : (os.length : Int) < cnt
      · go_wp2_with (refine wpList_store_row rfl 24 (.tmp 2) (.tmp 83) rfl D #[.int .i64 0, .slice none 0 0] rfl rfl 24 _ H9.out.d rfl rfl (by simp [Value.oneCell']) ?_)
        refine ret_row3 rfl D 24 #[.int .i64 0, .slice none 0 0] _ rfl (setRow_heap _ _ _ _ _ _ H9.out.d) Tryd.underlying24 rfl (by kernel_rfl) rfl ?_
        rw [HQ.out]
        have hkD := kb_setRow wr D #[.int .i64 0, .slice none 0 0]
        exact ⟨rfl, hkD.ext H9.out.fr.ext (fun k hk => H9.out.ns k (by simp at hk; simp [hk]))⟩
      · go_wp2_with (refine wpList_store_row rfl 24 (.tmp 2) (.tmp 83) rfl D #[.int .i64 0, .slice none 0 0] rfl rfl 24 _ H9.out.d rfl rfl (by simp [Value.oneCell']) ?_)
        refine ret_row3 rfl D 24 #[.int .i64 0, .slice none 0 0] _ rfl (setRow_heap _ _ _ _ _ _ H9.out.d) Tryd.underlying24 rfl (by kernel_rfl) rfl ?_
        rw [HQ.out]
        have hkD := kb_setRow wr D #[.int .i64 0, .slice none 0 0]
        exact ⟨rfl, hkD.ext H9.out.fr.ext (fun k hk => H9.out.ns k (by simp at hk; simp [hk]))⟩
    | false =>
      by_cases hji : (os.length : Int) < cnt
      · have HN0 := Lib.hid (H.out.number H0.out.2.2 (by have := HN.out.1; simp at this; omega))
        go_upto_region 13 with (go_at_call 37; refine HN0.out.mono ?_; rintro e w8 ⟨v8, rfl, HP8⟩; clear p1 p2 p3 hlX)
        obtain ⟨GK, hGK⟩ : ∃ x, x = gk := ⟨_, rfl⟩
        subst hGK
        go_loopg [12, 13] bs0.length (fun gk s12 s13 wr => ∃ (v : Int) (p : Option Addr) (n c : Nat) (bs : List UInt8) (bad : Bool) (d2 d3 : Nat) (da : Option Addr) (ps : List Int), s12 = .slice da d2 d3 ∧ s13 = .int .i64 v ∧ Hid (PB w X F D g x p n c bs bad (.slice ba b2 b3) vs os (.slice da d2 d3) ps wr) ∧ Hid (szF os + ps.length + bs.length + (if bad then 0 else 1) ≤ 20000 ∧ (bad = false → bs.length < gk ∧ bs.length < bs0.length)))
        case atStart =>
          obtain ⟨p8, n8, c8, bs8, bad8, h1, h2, h3⟩ := HP8.out
          refine ⟨v8, p8, n8, c8, bs8, bad8, _, _, _, [], rfl, rfl, Lib.hid h1, Lib.hid ⟨?_, fun e => ⟨(h3 e).2.1, (h3 e).2.1⟩⟩⟩
          have h4 := HN.out.1
          cases bad8
          · have := (h3 rfl).2.1
            simp at h4 ⊢; omega
          · simp at h4 ⊢; omega
        case round =>
          obtain ⟨v, p, n, c, bs, bad, d2, d3, da, ps, rfl, rfl, H, HN9⟩ := hrel
          have p1 := H.out.rd.cells 1 _ rfl
          have q3 := H.out.c.cells 1 _ rfl
          have hlX := H.out.rd.lt
          have hlF := H.out.c.lt
          have hwr := H.out.fr.ext.size
          by_cases hv : v = 0
          · subst hv
            have H9 := H
            have hvl : vs.length ≤ 200000 := by have := H.out.fr.len; have := szF_len2 os; have := HN9.out.1; omega
            go_wp2_with (at_builtin; (refine wpList_append_slc _ rfl (.tmp 68) (.tmp 70) 22 rfl w.heap.size 36 (.slice none 0 0) 1 24 Tryd.underlying22 infoInts rfl (by decide) (.slice ba b2 b3) vs.length vs rfl (ownsRow_ext H9.out.fr.top (by repeat first | exact Ext.refl _ | assumption | refine Ext.drew ?_ | refine Ext.drewN ?_ _ | refine Ext.extBy ?_ _ | refine Ext.alloc ?_ _ | refine Ext.setCell ?_ (by simp; try omega) _ | (refine Ext.trans ?_ (by assumption)))) _ 1 [.slice da d2 d3] rfl (SlC.fresh _ #[.slice da d2 d3] _ 1 _ (by simp) (by decide)) rfl (by simp [Value.oneCell']) (by unfold maxLen; omega) (by omega) (by simp; omega) ?_; intro v9 w9 hown9 hg9 hat9; obtain ⟨x9, y9, z9, rfl⟩ := own_slice3 hown9; have HP := Lib.hid ((H9.out.next (by repeat first | exact Ext.refl _ | assumption | refine Ext.drew ?_ | refine Ext.drewN ?_ _ | refine Ext.extBy ?_ _ | refine Ext.alloc ?_ _ | refine Ext.setCell ?_ (by simp; try omega) _ | (refine Ext.trans ?_ (by assumption)))).push hg9 hown9 hat9); have hc1 := HP.out.1.cells 1 _ rfl; have hcf := HP.out.1.fz 1; clear hown9 hg9 hat9))
            obtain ⟨go, hgo⟩ : ∃ go, go < GK ∧ (bad = false → bs.length < go) := by
              have h4 := (HN.out.2 (by simp)).1
              have h6 := HN9.out.2
              cases bad
              · exact ⟨bs0.length, h4, fun e => (h6 rfl).2⟩
              · exact ⟨0, by omega, by simp⟩
            go_roundg go
            case measure => exact hgo.1
            case rel =>
              refine ⟨p, n, c, bs, bad, 0, y9, z9, x9, vs ++ [.slice da d2 d3], os ++ [ps], by simp, Lib.hid HP.out.2, Lib.hid ⟨?_, fun e => ⟨hgo.2 e, (HN.out.2 (by simp)).2⟩⟩⟩
              rw [szF_snoc]
              have h5 := HN9.out.1
              cases bad <;> simp at h5 ⊢ <;> omega
          · have hvz : (v == 0) = false := by simpa using hv
            cases bad with
            | true =>
              have H9 := H
              have hvl : vs.length ≤ 200000 := by have := H.out.fr.len; have := szF_len2 os; have := HN9.out.1; omega
              go_wp2_with (at_builtin; (refine wpList_append_slc _ rfl (.tmp 68) (.tmp 70) 22 rfl w.heap.size 36 (.slice none 0 0) 1 24 Tryd.underlying22 infoInts rfl (by decide) (.slice ba b2 b3) vs.length vs rfl (ownsRow_ext H9.out.fr.top (by repeat first | exact Ext.refl _ | assumption | refine Ext.drew ?_ | refine Ext.drewN ?_ _ | refine Ext.extBy ?_ _ | refine Ext.alloc ?_ _ | refine Ext.setCell ?_ (by simp; try omega) _ | (refine Ext.trans ?_ (by assumption)))) _ 1 [.slice da d2 d3] rfl (SlC.fresh _ #[.slice da d2 d3] _ 1 _ (by simp) (by decide)) rfl (by simp [Value.oneCell']) (by unfold maxLen; omega) (by omega) (by simp; omega) ?_; intro v9 w9 hown9 hg9 hat9; obtain ⟨x9, y9, z9, rfl⟩ := own_slice3 hown9; have HP := Lib.hid ((H9.out.next (by repeat first | exact Ext.refl _ | assumption | refine Ext.drew ?_ | refine Ext.drewN ?_ _ | refine Ext.extBy ?_ _ | refine Ext.alloc ?_ _ | refine Ext.setCell ?_ (by simp; try omega) _ | (refine Ext.trans ?_ (by assumption)))).push hg9 hown9 hat9); have hc1 := HP.out.1.cells 1 _ rfl; have hcf := HP.out.1.fz 1; clear hown9 hg9 hat9))
              obtain ⟨go, hgo⟩ : ∃ go, go < GK ∧ (true = false → bs.length < go) := ⟨0, by have h4 := (HN.out.2 (by simp)).1; omega, by simp⟩
              go_roundg go
              case measure => exact hgo.1
              case rel =>
                refine ⟨p, n, c, bs, true, 0, y9, z9, x9, vs ++ [.slice da d2 d3], os ++ [ps], by simp, Lib.hid HP.out.2, Lib.hid ⟨?_, fun e => ⟨hgo.2 e, (HN.out.2 (by simp)).2⟩⟩⟩
                rw [szF_snoc]
                have h5 := HN9.out.1
                simp at h5 ⊢; omega
            | false =>
              have hkl : ps.length ≤ 20000 := by have := HN9.out.1; omega
              have hbl : bs.length ≤ 1000000 := by have := HN9.out.1; omega
              have HBL := Lib.hid (And.intro hkl hbl)
              clear hbl
              go_wp2_with (first | (go_at_call 37; refine (HP.out.number H0.out.2.2 HBL.out.2).mono ?_; rintro e w10 ⟨v10, rfl, HP10⟩) | (at_builtin; (refine wpList_append_slc _ rfl (.tmp 63) (.tmp 65) 36 rfl w.heap.size 3 (.int .i64 0) 1 8 Tryd.underlying36 infoInt rfl (by decide) (.slice da d2 d3) ps.length (i64s ps) rfl (ownsRow_ext H.out.pd (by repeat first | exact Ext.refl _ | assumption | refine Ext.drew ?_ | refine Ext.drewN ?_ _ | refine Ext.extBy ?_ _ | refine Ext.alloc ?_ _ | refine Ext.setCell ?_ (by simp; try omega) _ | (refine Ext.trans ?_ (by assumption)))) _ 1 [.int .i64 v] rfl (SlC.fresh _ #[.int .i64 v] _ 1 _ (by simp) (by decide)) rfl (by simp [Value.oneCell']) (by unfold maxLen; omega) (by omega) (by simp; omega) ?_; intro v9 w9 hown9 hg9 hat9; obtain ⟨x9, y9, z9, rfl⟩ := own_slice3 hown9; have HP := Lib.hid ((H.out.next (by repeat first | exact Ext.refl _ | assumption | refine Ext.drew ?_ | refine Ext.drewN ?_ _ | refine Ext.extBy ?_ _ | refine Ext.alloc ?_ _ | refine Ext.setCell ?_ (by simp; try omega) _ | (refine Ext.trans ?_ (by assumption)))).add v hg9 hown9 hat9); clear hown9 hg9 hat9)))
              obtain ⟨p', n', c', bs', bad', h1, h2, h3⟩ := HP10.out
              have h4 := HN9.out
              obtain ⟨gn, hgn⟩ : ∃ gn, gn < gk ∧ (bad' = false → bs'.length < gn) := ⟨bs.length, (h4.2 (by simp)).1, fun e => (h3 e).2.1⟩
              go_roundg gn
              case measure => exact hgn.1
              case rel =>
                refine ⟨v10, p', n', c', bs', bad', y9, z9, x9, ps ++ [v], rfl, rfl, Lib.hid h1, Lib.hid ⟨?_, fun e => ⟨hgn.2 e, by have := (h3 e).2.1; have := (h4.2 (by simp)).2; omega⟩⟩⟩
                have h5 := h4.1
                rw [List.length_append, List.length_singleton]
                cases bad'
                · have := (h3 rfl).2.1
                  simp at h5 ⊢; omega
                · simp at h5 ⊢; omega
      · have HE := H.out
        have HTX := Lib.hid (text_no s x _ vs os wr (HN.out.2 rfl).2.2.1 (HN.out.2 rfl).2.2.2 HE.fr.rows (by have := HN.out.1; simp at this; omega) (tab_ext H0.out.2.1 HE.fr.ext) H0.out.1 (by rw [← HT.out.1]; exact (HN.out.2 rfl).2.1))
        clear HE
        go_wp2_with (first | (go_at_call 21; refine HTX.out.mono ?_; rintro e w11 ⟨tx, rfl, htx, hE11⟩; have H11 := Lib.hid (H9.out.next hE11); have hlD := H11.out.lts D (by simp); clear hE11) | (refine wpList_store_row rfl 24 (.tmp 2) (.tmp 83) rfl D #[.int .i64 0, .slice none 0 0] rfl rfl 24 _ H11.out.d rfl rfl (by simp [Value.oneCell']) ?_))
        refine ret_row3 rfl D 24 #[.int .i64 0, .slice none 0 0] _ rfl (setRow_heap _ _ _ _ _ _ H11.out.d) Tryd.underlying24 rfl (by kernel_rfl) rfl ?_
        rw [HQ.out]
        have hkD := kb_setRow w11 D #[.int .i64 0, .slice none 0 0]
        exact ⟨rfl, hkD.ext H11.out.fr.ext (fun k hk => H11.out.ns k (by simp at hk; simp [hk]))⟩
end Go.Proofs.YtlikmdeplpldlaaDoor

/-
  The walk of the law CnfParses.
  Conditions: what the library's variables hold.
  What the library's variables hold where a row lists them.
  No condition.
  The frame of a row that lists variables, where the world's shape is wanted too.
  Conditions: none but the contract.
-/
import Derived.Test.YtlikmdeplpldlaaDoorJCpC
import Derived.Test.YtlikmdeplpldlaaDoorJCpB
import Derived.Test.YtlikmdeplpldlaaDoorCnfS
import Derived.Test.YtlikmdeplpldlaaDoorCnfC
import Derived.Lib.LaidU8T
import Derived.PinnedBridge
import Derived.Shelf.Vars
import Derived.Test.YtlikmdeplpldlaaDoorCnfTab7
import Derived.SizedLaws
namespace Go.Proofs.YtlikmdeplpldlaaDoor
open Go.RowKit
set_option linter.unusedSimpArgs false
set_option linter.unusedVariables false
set_option maxRecDepth 100000

def BothP (s : ByteArray) (W : World) (x : Int) (rs : List (List Int)) (c : Int) : Prop :=
  ∀ w, Ext W w → (Calls Tryd.prog 23 #[.string s] w fun e w' => ∃ cv vs, e = .returned (.tuple #[.agg #[.int .i64 x, cv], .int .i64 0, .int .i64 c]) ∧ Hid (RowsIn w' cv vs rs ∧ Ext w w')) ∧
    (Calls Tryd.prog 24 #[.string s] w fun e w' => ∃ cv vs, e = .returned (.tuple #[.agg #[.int .i64 x, cv], .int .i64 c]) ∧ Hid (RowsIn w' cv vs rs ∧ Ext w w'))
theorem parse_both (s : ByteArray) (W : World) (hs : s.size ≤ 20000) (htab : Lib.TabIs Tryd.prog W "internal/strconv.uint64pow10" .u64 Lib.pow10Tab) (hT : LibW W) : ∃ x rs c, szF rs ≤ 1000000 ∧ BothP s W x rs c := by
  by_cases h : ∃ x rs, goodF x rs ∧ s.data.toList = textF x rs
  · obtain ⟨x, rs, hg, ht⟩ := h
    have hst : s = ⟨(textF x rs).toArray⟩ := by rw [← ht]
    refine ⟨x, rs, 0, by have := hg.2.2; omega, fun w hw => ⟨?_, ?_⟩⟩
    · have h1 := parse_text x rs w hg.2.1 hg.1 hg.2.2 (tab_ext htab hw)
      rw [← hst] at h1
      refine h1.mono ?_
      rintro e w' ⟨cv, vs, rfl, hR, hE⟩
      exact ⟨cv, vs, rfl, Lib.hid ⟨hR, hE⟩⟩
    · refine (refparse_any s x rs w hs).mono ?_
      rintro e w' ⟨cv, vs, xr, rr, c, rfl, hR, hE, -, h4⟩
      obtain ⟨rfl, rfl, rfl⟩ := h4 ⟨hg, ht⟩
      exact ⟨cv, vs, rfl, Lib.hid ⟨hR, hE⟩⟩
  · have hno : ∀ x rs, goodF x rs → s.data.toList ≠ textF x rs := fun x rs h1 h2 => h ⟨x, rs, h1, h2⟩
    refine ⟨0, [], 40, by simp [szF], fun w hw => ⟨?_, ?_⟩⟩
    · refine (parse_no s w hs hno (tab_ext htab hw) (hT.ext hw)).mono ?_
      rintro e w' ⟨rfl, hE⟩
      exact ⟨_, [], rfl, Lib.hid ⟨⟨⟨none, 0, rfl, Nat.le_refl _, Nat.zero_le _, fun j u hu => by simp at hu⟩, rfl, fun j x r h1 => by simp at h1⟩, hE⟩⟩
    · refine (refparse_any s 0 [] w hs).mono ?_
      rintro e w' ⟨cv, vs, xr, rr, c, rfl, hR, hE, h3, -⟩
      rcases h3 with ⟨-, h5, h6⟩ | ⟨rfl, rfl, rfl⟩
      · exact absurd h6 (hno _ _ h5)
      · exact ⟨cv, vs, rfl, Lib.hid ⟨hR, hE⟩⟩
set_option maxHeartbeats 8000000 in
theorem cnfParses_any (s : ByteArray) (w : World) (htab : Lib.TabIs Tryd.prog w "internal/strconv.uint64pow10" .u64 Lib.pow10Tab) (hT : LibW w) :
    Calls Tryd.prog 7 #[.string s] w fun e w' => e = .returned (.bool true) ∧ Ext w w' := by
  have HT := Lib.hid (And.intro htab hT)
  by_cases hs : s.size ≤ 20000
  · obtain ⟨x, rs, c, hz, hB⟩ := parse_both s w hs htab hT
    have HB := Lib.hid (And.intro hz hB)
    have hsi : ¬ (20000 : Int) < (s.size : Int) := by omega
    clear hz hB htab hT
    go_enter Tryd.func7, Tryd.ntmps7
    go_upto_region 4 with (go_at_call 8; refine (alive_any _ HT.out.1).mono ?_; rintro e w1 ⟨rfl, hE1⟩; have HE1 := Lib.hid hE1; clear hE1)
    go_upto_region 5 with (first | (go_at_call 23; refine (HB.out.2 _ HE1.out).1.mono ?_; rintro e w2 ⟨cv, vs, rfl, H2⟩; obtain ⟨ga, gcap, rfl, -, -, -⟩ := id H2.out.1.top) | (refine wpList_store_last rfl 24 (.tmp 4) (.tmp 21) rfl _ _ _ _ rfl rfl (by simp) (by kernel_rfl) (by kernel_rfl) (by kernel_rfl) ?_))
    have hE3 : Ext w2 (w2.alloc (.cells #[.int .i64 x, .slice ga rs.length gcap] 24)) := (Ext.refl w2).alloc _
    have hF := BoxV.of_row (heap_alloc_last w2 (.cells #[.int .i64 x, .slice ga rs.length gcap] 24))
    have H3 := Lib.hid (And.intro ((HE1.out.trans H2.out.2).trans hE3) (And.intro (H2.out.1.ext hE3) hF))
    clear hE3 hF H2 HE1
    obtain ⟨F, hFd⟩ : ∃ F, F = w2.heap.size := ⟨_, rfl⟩
    rw [← hFd] at H3 ⊢
    generalize w2.alloc (.cells #[.int .i64 x, .slice ga rs.length gcap] 24) = w3 at H3 ⊢
    clear hFd
    go_upto_region 6 with (first | (go_at_call 24; refine (HB.out.2 _ H3.out.1).2.mono ?_; rintro e w4 ⟨dv, us, rfl, H4⟩; obtain ⟨ha, hcap, rfl, -, -, -⟩ := id H4.out.1.top) | (refine wpList_store_last rfl 24 (.tmp 7) (.tmp 27) rfl _ _ _ _ rfl rfl (by simp) (by kernel_rfl) (by kernel_rfl) (by kernel_rfl) ?_))
    have hE5 : Ext w4 (w4.alloc (.cells #[.int .i64 x, .slice ha rs.length hcap] 24)) := (Ext.refl w4).alloc _
    have hG := BoxV.of_row (heap_alloc_last w4 (.cells #[.int .i64 x, .slice ha rs.length hcap] 24))
    have hF5 := H3.out.2.2.ext (H4.out.2.trans hE5)
    have H5 := Lib.hid (And.intro (H3.out.1.trans (H4.out.2.trans hE5)) (And.intro (H3.out.2.1.ext (H4.out.2.trans hE5)) (H4.out.1.ext hE5)))
    clear hE5 H3 H4
    obtain ⟨G, hGd⟩ : ∃ G, G = w4.heap.size := ⟨_, rfl⟩
    rw [← hGd] at hG ⊢
    generalize w4.alloc (.cells #[.int .i64 x, .slice ha rs.length hcap] 24) = w5 at hF5 hG H5 ⊢
    clear hGd
    have f0 := hF5.cells 0 _ rfl
    have f1 := hF5.cells 1 _ rfl
    have g0 := hG.cells 0 _ rfl
    have g1 := hG.cells 1 _ rfl
    have hlF := hF5.lt
    have hlG := hG.lt
    clear hF5 hG
    go_wp2_with (first | (go_at_call 11; refine (num23_any _ _).mono ?_; rintro e w' ⟨rfl, rfl⟩) | (go_at_call 18; refine (sameF_any x _ _ vs us rs _ H5.out.2.1 H5.out.2.2 HB.out.1).mono ?_; rintro e w' ⟨rfl, hE'⟩; have HE7 := Lib.hid hE'))
    go_ret
    exact ⟨rfl, H5.out.1.trans HE7.out⟩
  · have hsi : (20000 : Int) < (s.size : Int) := by omega
    clear htab hT
    go_enter Tryd.func7, Tryd.ntmps7
    go_wp2_with (go_at_call 8; refine (alive_any _ HT.out.1).mono ?_; rintro e w1 ⟨rfl, hE1⟩; have HE1 := Lib.hid hE1; clear hE1)
    go_ret
    exact ⟨rfl, HE1.out⟩
end Go.Proofs.YtlikmdeplpldlaaDoor
namespace Go.Proofs.YtlikmdeplpldlaaDoor
open Go.RowKit Go.WideShapes Go.ChangeAt Go.Shelf Go.Lib
set_option linter.unusedSimpArgs false
set_option linter.unusedVariables false
set_option maxRecDepth 100000

theorem err_cell {P : Program} {w : World} {name : String} {d : DataW Unit} {g : Nat} {t : TypeId} (h : VarReads P w name d) (hg : P.globalNamed name = some g) (hty : (P.globals[g]?).map (·.type) = some t) (hu : ∃ ms, P.underlying t = some (.interface ms)) : ErrC w g := by
  obtain ⟨g', t', cs, fuel, p, hg', ht', hvar, hd⟩ := h
  obtain rfl := Option.some.inj (hg.symm.trans hg')
  obtain rfl := Option.some.inj (hty.symm.trans ht')
  obtain ⟨ms, hu⟩ := hu
  have hc := World.var?_cell hg hvar 0
  cases fuel with
  | zero => simp [DataW.trod] at hd
  | succ n =>
    unfold DataW.trod at hd
    rw [hu] at hd
    split at hd
    all_goals first
      | (rename_i hi _; cases hi; done)
      | (rename_i hcs; have h0 : cs[0]? = some .nilIface := by rw [← Array.getElem?_toList, hcs]; rfl
         rw [h0] at hc; exact ⟨_, hc, .inl rfl⟩)
      | (rename_i u v _ hcs; have h0 : cs[0]? = some (.iface u v) := by rw [← Array.getElem?_toList, hcs]; rfl
         rw [h0] at hc; exact ⟨_, hc, .inr ⟨_, _, rfl⟩⟩)
      | simp_all
theorem globE : (Tryd.laysDR_ren.g 2, Tryd.laysDR_ren.g 3, Tryd.laysAT_ren.g 15, Tryd.laysAT_ren.g 16) = (2, 3, 4, 5) := by kernel_rfl
def renU : Ren := ⟨fun k => k, fun | 5 => 5 | 119 => 122 | 138 => 124 | 139 => 125 | k => k, fun | 3 => 2 | 4 => 3 | k => k⟩
theorem typesU : U8Types Tryd.prog renU := ⟨Tryd.underlying5, Tryd.underlying122, Tryd.underlying124, Tryd.underlying125⟩
theorem extraU : U8Extra Tryd.prog renU := ⟨by kernel_rfl, by kernel_rfl, by kernel_rfl, by kernel_rfl, by kernel_rfl, by kernel_rfl, by kernel_rfl⟩
theorem libW_of {W : World} (h : laidMetH Tryd.prog laid7 W) (hsh : W.ShapedOpen Tryd.prog) : LibW W := by
  have hm : laidMet Tryd.prog laid7 W := by
    rw [MakeChecks.laidMetH_plain _ _ _ (by kernel_rfl)] at h
    exact h
  have e := globE
  simp only [Prod.mk.injEq] at e
  obtain ⟨e1, e2, e3, e4⟩ := e
  have h1 : VarReads Tryd.prog W "unicode/utf8.first" Pinned.utf8First := Lib.laidMet.reads hm (by simp [laid7, Rows.laid_unicode_utf8_first])
  rw [Pinned.utf8First_eq] at h1
  have h2 : VarReads Tryd.prog W "unicode/utf8.acceptRanges" Rows.laid_unicode_utf8_acceptRanges := Lib.laidMet.reads hm (by simp [laid7])
  rw [show (Rows.laid_unicode_utf8_acceptRanges : DataW Unit) = acceptData by kernel_rfl] at h2
  have h3 : VarReads Tryd.prog W "strconv.ErrSyntax" Rows.laid_strconv_ErrSyntax := Lib.laidMet.reads hm (by simp [laid7])
  have h4 : VarReads Tryd.prog W "strconv.ErrRange" Rows.laid_strconv_ErrRange := Lib.laidMet.reads hm (by simp [laid7])
  have hu := utf8Tabs_of_readsT typesU extraU h1 h2
  refine ⟨⟨?_, ?_⟩, ?_, ?_⟩
  · rw [e1, e2]; exact hu
  · exact cell_of_shapedOpen_int (t := 3) (zero := #[.int .i64 0]) (k := .i64) hsh (of_decide_eq_true (by kernel_rfl)) (by kernel_rfl) rfl (by kernel_rfl) (by kernel_rfl) Tryd.underlying3
  · rw [e3]; exact err_cell h3 (t := 80) (by kernel_rfl) (by kernel_rfl) ⟨_, Tryd.underlying80⟩
  · rw [e4]; exact err_cell h4 (t := 80) (by kernel_rfl) (by kernel_rfl) ⟨_, Tryd.underlying80⟩
end Go.Proofs.YtlikmdeplpldlaaDoor
namespace Go.Proofs.YtlikmdeplpldlaaDoor
open Go.ChangeShapes Go.WideShapes

theorem handed_shaped {H : Type} {enc : TypeId × Value → H} {a : Assume} {C : Checked} {os : Os} {f : FuncId} {fn : Func} {s : ChangeSpec} {conds : List PathCond} {apart fresh handsOn again : Bool} {X : World → Array Value → Prop}
    (hX : ∀ (w w' : World) (args : Array Value), w.heap = w'.heap → X w args → X w' args)
    (own : ownKnob C.prog.godebug = none) (started : os.Started) (noInit : C.prog.inits.idxOf? f = none) (hfn : C.prog.funcs[f]? = some fn)
    (witness : ∃ (w : World) (tape : Tape) (i : Input), w.os = os ∧ (w.forCall tape i).Shaped C.prog ∧ i.vars = [] ∧ Input.okWide C.prog (w.forCall tape i) .any w.heap.size f i ∧
      ((s.pre enc C.prog fn conds apart (w.forCall tape i).memory i.args ∧ X (w.forCall tape i).memory i.args) ∧ sizedMet enc C.prog fn (OpenSpec.ofChange s) apart (w.forCall tape i).memory i.args) ∧ a.holds C.prog (lone (Frame.enter C.prog f i.args .normal) [] (w.forCall tape i)))
    (walk : ∀ (W : World) (base : Nat) (args : Array Value) (ds gs : List (DataW H)) (before : List MemPlace),
      (∀ (j : Nat) t v, fn.params[j]? = some t → args[j]? = some v → Value.okWide C.prog W .any base t v) →
      DataW.Whole enc C.prog fn.params.toList s.vars apart W args.toList ds gs before →
      conds.all (PathCond.test C.prog ⟨fn.params.toList, ds, s.plain.varTypes C.prog, gs⟩) = true →
      (DataW.weightsEach C.prog (fn.params.toList ++ s.plain.varTypes C.prog) (ds ++ gs)).all (· ≤ reachBytes) = true → X W args → W.ShapedOpen C.prog →
      Calls C.prog f args W fun e W' => ∃ v, e = .returned v ∧ s.post enc C.prog fn apart fresh handsOn again W args v W') :
    ReturnsInHanded a C os f .any (fun w args => (s.pre enc C.prog fn conds apart w args ∧ X w args) ∧ sizedMet enc C.prog fn (OpenSpec.ofChange s) apart w args) (s.post enc C.prog fn apart fresh handsOn again) :=
  returnsInHanded_of_calls own started noInit witness fun w tape i _ hsh _ hok hpre _ => by
    obtain ⟨_, _, _, gn, hgn, _, _, _, _, hval⟩ := hok
    cases Option.some.inj (hgn.symm.trans hfn)
    obtain ⟨⟨⟨ds, gs, before, hw, hc⟩, hx⟩, hz⟩ := hpre
    refine (walk (w.forCall tape i) w.heap.size i.args ds gs before hval (DataW.Whole.of_heap (by rfl) hw) hc (hz.weights hw) (hX _ _ _ (by rfl) hx) hsh).mono ?_
    rintro e W' ⟨v, rfl, hp⟩
    exact ChangeSpec.post_blind hp
end Go.Proofs.YtlikmdeplpldlaaDoor

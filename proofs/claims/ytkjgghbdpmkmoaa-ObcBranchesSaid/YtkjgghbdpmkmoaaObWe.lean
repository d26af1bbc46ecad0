/-
  The walk: whether names are there, and kinds go together.
  Condition: the step code and its checker lie in memory.
-/
import Derived.Test.YtkjgghbdpmkmoaaObWd
namespace Go.Proofs.Ytkjgghbdpmkmoaa
open Go.RowKit Go.Maps
set_option linter.unusedSimpArgs false
set_option linter.unusedVariables false
set_option maxRecDepth 100000

def thereT (t : NT) (l : List ST) : Bool := expsL (fun e => decide (e.form ≠ 2) || decide (isN t e.name ≠ 0)) l && eachL (fun x => if x.form = 1 then decide (isN t x.name = 2 ∨ isN t x.name = 3) else if x.form = 2 then decide (isN t x.name = 4) else true) l
def typesT (t : NT) (l : List ST) : Bool := eachL (fun x => if x.form = 3 then decide (kindE (kindN t) x.e = 1) else decide (kindE (kindN t) x.e = kindN t x.name)) l
theorem clo_thereE (W0 : World) (x : S5) (X M : Nat) (t : NT) (c0 : Int) (B : Nat) : CloP W0 [] (StX W0 x X M t c0 B) (thereE t) 35 #[.pointer (some ⟨B, 0, none⟩)] where
  st := fun _ _ _ h hx => h.next hx
  off := by simp
  lts := by simp
  enter := fun args w => by kernel_rfl
  call := fun _ w e kv hx hst hk hok => there1_any W0 x X M t c0 B w e kv (KIn.ext hx e kv hk) hst hok
theorem clo_thereS (W0 : World) (x : S5) (X M : Nat) (t : NT) (c0 : Int) (B : Nat) : CloS W0 [] (StX W0 x X M t c0 B) (thereS1 t) 36 #[.pointer (some ⟨B, 0, none⟩)] where
  st := fun _ _ _ h hx => h.next hx
  off := by simp
  lts := by simp
  enter := fun args w => by kernel_rfl
  call := fun _ w s sx hx hst hs hok => there2_any W0 x X M t c0 B w s sx (SIn.ext hx s sx hs) hst hok
theorem clo_typeS (W0 : World) (x : S5) (X M : Nat) (t : NT) (c0 : Int) (B : Nat) : CloG W0 [] (StX W0 x X M t c0 B) (typeS1 t) 37 #[.pointer (some ⟨B, 0, none⟩)] typeP where
  st := fun _ _ _ h hx => h.next hx
  off := by simp
  lts := by simp
  enter := fun args w => by kernel_rfl
  call := fun _ w s sx hx hst hs hok => types1_any W0 x X M t c0 B w s sx hs hst hok
set_option maxHeartbeats 8000000 in
theorem there_any (W0 : World) (s : SP) (x : S5) (X M : Nat) (t : NT) (c0 : Int) (w : World) (hs : SPIn W0 s x) (hok : okP s) (hck : CK W0 x X M (ntL t) c0 w) :
    Calls Try.prog 18 #[.pointer (some ⟨X, 0, none⟩)] w (RetQ (thereT t s.body) w) := by
  obtain ⟨R, hR⟩ : ∃ R, R = thereT t s.body := ⟨_, rfl⟩
  rw [← hR]
  obtain ⟨Q, hQ⟩ : ∃ Q, Q = RetQ R w := ⟨_, rfl⟩
  rw [← hQ]
  have HQ := Lib.hid hQ
  have HR := Lib.hid hR
  have HS := Lib.hid (And.intro hs (And.intro hok hck))
  obtain ⟨iv, ov, vv, cv, bv⟩ := x
  obtain ⟨p5, c5, e5, -, -⟩ := hs.body.slice
  simp only at e5
  subst e5
  obtain ⟨y, hy⟩ : ∃ y : S5, y = ⟨iv, ov, vv, cv, .slice p5 s.body.length c5⟩ := ⟨_, rfl⟩
  rw [← hy] at HS hck hs
  obtain ⟨n5, h5⟩ : ∃ n, n = s.body.length := ⟨_, rfl⟩
  have hbx : BoxV X [iv, ov, vv, cv, .slice p5 n5 c5, .map (some M), .int .i64 c0] w := by
    have := hck.box
    rw [hy] at this
    rw [h5]
    exact this
  have hbin : BIn W0 (.slice p5 n5 c5) s.body := by
    have := hs.body
    rw [hy] at this
    rw [h5]; exact this
  have hby : BoxV w.heap.size [.pointer (some ⟨X, 0, none⟩)] (w.alloc (.cells #[.pointer (some ⟨X, 0, none⟩)] 53)) := BoxV.of_row (heap_alloc_last w _)
  have hxy : Ext w (w.alloc (.cells #[.pointer (some ⟨X, 0, none⟩)] 53)) := (Ext.refl w).alloc _
  have hst : StX W0 y X M t c0 w.heap.size () (w.alloc (.cells #[.pointer (some ⟨X, 0, none⟩)] 53)) := ⟨hck.next hxy, hby⟩
  have HST := Lib.hid (And.intro hst hxy)
  have g4 := (hbx.ext hxy).cells 4 _ rfl
  have gl := (hbx.ext hxy).lt
  obtain ⟨b1, hb1⟩ : ∃ b, b = (goL (expStep (thereE t)) s.body ()).2 := ⟨_, rfl⟩
  obtain ⟨b2, hb2⟩ : ∃ b, b = (goL (thereS1 t) s.body ()).2 := ⟨_, rfl⟩
  have HR2 : Hid (R = (b1 && b2)) := Lib.hid (by
    have e1 : b1 = expsL (fun e => decide (e.form ≠ 2) || decide (isN t e.name ≠ 0)) s.body := by rw [hb1]; exact exps_ask _ _
    have e2 : b2 = eachL (fun x => if x.form = 1 then decide (isN t x.name = 2 ∨ isN t x.name = 3) else if x.form = 2 then decide (isN t x.name = 4) else true) s.body := by rw [hb2]; exact goL_ask _ _
    rw [HR.out, e1, e2]; rfl)
  have HF1 : Hid (Calls Try.prog 31 #[.pointer (some ⟨X, 0, none⟩), .func (.func 35) #[] #[.pointer (some ⟨w.heap.size, 0, none⟩)]] (w.alloc (.cells #[.pointer (some ⟨X, 0, none⟩)] 53)) (RetB [] (StX W0 y X M t c0 w.heap.size) ((), b1) (w.alloc (.cells #[.pointer (some ⟨X, 0, none⟩)] 53)))) := Lib.hid (by
    rw [hb1]
    exact exps_any (clo_thereE W0 y X M t c0 w.heap.size) hs hok hst.1 hst)
  have HF2 : Hid (∀ w1, Ext (w.alloc (.cells #[.pointer (some ⟨X, 0, none⟩)] 53)) w1 → Calls Try.prog 23 #[.slice p5 n5 c5, .func (.func 36) #[] #[.pointer (some ⟨w.heap.size, 0, none⟩)]] w1 (RetB [] (StX W0 y X M t c0 w.heap.size) ((), b2) w1)) := Lib.hid (fun w1 hx1 => by
    rw [hb2]
    exact each_any (clo_thereS W0 y X M t c0 w.heap.size) (hst.1.ext.trans hx1) (hst.next hx1) hbin hok.body)
  have b0 := hby.cells 0 _ rfl
  have bl := hby.lt
  clear hQ hR hs hok hck hy h5 hbx hbin hb1 hb2 hby hxy hst HR
  cases b1 with
  | false =>
    go_enter Try.func18, Try.ntmps18
    go_upto_region 1 with fail
    generalize (w.alloc (.cells #[.pointer (some ⟨X, 0, none⟩)] 53)) = wy at HST HF1 HF2 g4 gl b0 bl ⊢
    generalize w.heap.size = Y at HST HF1 HF2 b0 bl ⊢
    go_wp2_with (first | (go_at_call 31; refine HF1.out.mono ?_; rintro e1 w1 ⟨rfl, H1⟩) | fail)
    rw [HQ.out, HR2.out]
    exact ⟨rfl, Lib.hid (HST.out.2.trans H1.out.1.toExt)⟩
  | true =>
    go_enter Try.func18, Try.ntmps18
    go_upto_region 1 with fail
    generalize (w.alloc (.cells #[.pointer (some ⟨X, 0, none⟩)] 53)) = wy at HST HF1 HF2 g4 gl b0 bl ⊢
    generalize w.heap.size = Y at HST HF1 HF2 b0 bl ⊢
    go_wp2_with (first | (go_at_call 31; refine HF1.out.mono ?_; rintro e1 w1 ⟨rfl, H1⟩; have g4 := H1.out.1.toExt.cell g4; have b0 := H1.out.1.toExt.cell b0; have gl := Nat.lt_of_lt_of_le gl H1.out.1.size; have bl := Nat.lt_of_lt_of_le bl H1.out.1.size) | (go_at_call 23; refine (HF2.out _ H1.out.1.toExt).mono ?_; rintro e2 w2 ⟨rfl, H2⟩) | fail)
    rw [HQ.out, HR2.out]
    exact ⟨by simp, Lib.hid (HST.out.2.trans (H1.out.1.toExt.trans H2.out.1.toExt))⟩
set_option maxHeartbeats 8000000 in
theorem types_any (W0 : World) (s : SP) (x : S5) (X M : Nat) (t : NT) (c0 : Int) (w : World) (hs : SPIn W0 s x) (hok : allL typeP s.body) (hck : CK W0 x X M (ntL t) c0 w) :
    Calls Try.prog 19 #[.pointer (some ⟨X, 0, none⟩)] w (RetQ (typesT t s.body) w) := by
  obtain ⟨R, hR⟩ : ∃ R, R = typesT t s.body := ⟨_, rfl⟩
  rw [← hR]
  obtain ⟨Q, hQ⟩ : ∃ Q, Q = RetQ R w := ⟨_, rfl⟩
  rw [← hQ]
  have HQ := Lib.hid hQ
  have HR := Lib.hid hR
  have HS := Lib.hid (And.intro hs (And.intro hok hck))
  obtain ⟨iv, ov, vv, cv, bv⟩ := x
  obtain ⟨p5, c5, e5, -, -⟩ := hs.body.slice
  simp only at e5
  subst e5
  obtain ⟨y, hy⟩ : ∃ y : S5, y = ⟨iv, ov, vv, cv, .slice p5 s.body.length c5⟩ := ⟨_, rfl⟩
  rw [← hy] at HS hck hs
  obtain ⟨n5, h5⟩ : ∃ n, n = s.body.length := ⟨_, rfl⟩
  have hbx : BoxV X [iv, ov, vv, cv, .slice p5 n5 c5, .map (some M), .int .i64 c0] w := by
    have := hck.box
    rw [hy] at this
    rw [h5]
    exact this
  have hbin : BIn W0 (.slice p5 n5 c5) s.body := by
    have := hs.body
    rw [hy] at this
    rw [h5]; exact this
  have hby : BoxV w.heap.size [.pointer (some ⟨X, 0, none⟩)] (w.alloc (.cells #[.pointer (some ⟨X, 0, none⟩)] 53)) := BoxV.of_row (heap_alloc_last w _)
  have hxy : Ext w (w.alloc (.cells #[.pointer (some ⟨X, 0, none⟩)] 53)) := (Ext.refl w).alloc _
  have hst : StX W0 y X M t c0 w.heap.size () (w.alloc (.cells #[.pointer (some ⟨X, 0, none⟩)] 53)) := ⟨hck.next hxy, hby⟩
  have HST := Lib.hid (And.intro hst hxy)
  have g4 := (hbx.ext hxy).cells 4 _ rfl
  have gl := (hbx.ext hxy).lt
  have hb1 : R = (goL (typeS1 t) s.body ()).2 := by rw [hR]; exact (goL_ask _ _).symm
  have HF1 : Hid (Calls Try.prog 23 #[.slice p5 n5 c5, .func (.func 37) #[] #[.pointer (some ⟨w.heap.size, 0, none⟩)]] (w.alloc (.cells #[.pointer (some ⟨X, 0, none⟩)] 53)) (RetB [] (StX W0 y X M t c0 w.heap.size) ((), R) (w.alloc (.cells #[.pointer (some ⟨X, 0, none⟩)] 53)))) := Lib.hid (by
    rw [hb1]
    exact eachG_any (clo_typeS W0 y X M t c0 w.heap.size) hst.1.ext hst hbin hok)
  have b0 := hby.cells 0 _ rfl
  have bl := hby.lt
  clear hQ hR hs hok hck hy h5 hbx hbin hb1 hby hxy hst HR
  go_enter Try.func19, Try.ntmps19
  go_upto_region 1 with fail
  generalize (w.alloc (.cells #[.pointer (some ⟨X, 0, none⟩)] 53)) = wy at HST HF1 g4 gl b0 bl ⊢
  generalize w.heap.size = Y at HST HF1 b0 bl ⊢
  go_wp2_with (first | (go_at_call 23; refine HF1.out.mono ?_; rintro e1 w1 ⟨rfl, H1⟩) | fail)
  rw [HQ.out]
  exact ⟨rfl, Lib.hid (HST.out.2.trans H1.out.1.toExt)⟩
end Go.Proofs.Ytkjgghbdpmkmoaa

/-
  The walk: whether all names have kinds.
  Condition: the step code and its checker lie in memory.
-/
import Derived.Test.YtkjgghbdpmkmoaaObW7
import Derived.Test.YtkjgghbdpmkmoaaBvWalkA
namespace Go.Proofs.Ytkjgghbdpmkmoaa
open Go.RowKit Go.Maps
set_option linter.unusedSimpArgs false
set_option linter.unusedVariables false
set_option maxRecDepth 100000

theorem kindsT_false {t : NT} {n : ByteArray} (h : (lookN t n).isSome) (hw : width (kindN t n) = 0) : kindsT t = false := by
  have he : ∃ e ∈ t, e.1 = n := by
    unfold lookN at h
    rw [Option.isSome_map] at h
    obtain ⟨e, h1, h2⟩ := List.find?_isSome.1 h
    exact ⟨e, h1, by simpa using h2⟩
  obtain ⟨e, h1, rfl⟩ := he
  unfold kindsT
  cases h3 : (t.all fun e => decide (width (kindN t e.1) ≠ 0)) with
  | false => rfl
  | true =>
    have := List.all_eq_true.1 h3 e h1
    simp [hw] at this
theorem look_mem {t : NT} {e : ByteArray × Int × Int} (h : e ∈ t) : (lookN t e.1).isSome := by
  unfold lookN
  rw [Option.isSome_map]
  exact List.find?_isSome.2 ⟨e, h, by simp⟩
theorem kindsT_true {t : NT} (hsz : ∀ e ∈ t, e.1.size ≤ maxLen) (h : ∀ n : ByteArray, n.size ≤ maxLen → (lookN t n).isSome → width (kindN t n) ≠ 0) : kindsT t = true := by
  unfold kindsT
  rw [List.all_eq_true]
  intro e he
  simpa using h e.1 (hsz e he) (look_mem he)
theorem sameKey_other {m n : ByteArray} (h : m ≠ n) : (nK m).sameKey (nK n) = false := sameKey_ne (fun e => h (nK_inj e))
set_option maxHeartbeats 8000000 in
theorem kinds_any (W0 : World) (x : S5) (X M : Nat) (t : NT) (c0 : Int) (w : World) (hck : CK W0 x X M (ntL t) c0 w) (hsz : ∀ e ∈ t, e.1.size ≤ maxLen) :
    Calls Try.prog 16 #[.pointer (some ⟨X, 0, none⟩)] w (RetQ (kindsT t) w) := by
  obtain ⟨R, hR⟩ : ∃ R, R = kindsT t := ⟨_, rfl⟩
  rw [← hR]
  obtain ⟨Q, hQ⟩ : ∃ Q, Q = RetQ R w := ⟨_, rfl⟩
  rw [← hQ]
  have HQ := Lib.hid hQ
  have HR := Lib.hid hR
  have HSZ := Lib.hid hsz
  have HC := Lib.hid hck
  have g5 := hck.box.cells 5 _ rfl
  have gl := hck.box.lt
  clear hR hQ hck hsz
  go_enter Try.func16, Try.ntmps16
  go_wp2_with (first | (at_range; refine wpList_range_sm _ rfl _ 54 rfl 9 76 Try.underlying9 Try.underlying54 M (ntL t) rfl HC.out.map ?_; intro w0 left0 cnt0 hrg0 hl0 hx0) | go_in)
  go_frame
  go_loopw [4] (fun _ wr => ∃ (left : Lit → Bool) (cnt : Nat), Hid (RG Try.prog 9 M w.heap.size (ntL t) left cnt wr) ∧ Hid (Ext w wr) ∧ Hid (∀ n : ByteArray, n.size ≤ maxLen → (lookN t n).isSome → left (nK n) = false → width (kindN t n) ≠ 0))
    (fun _ wr => wr.rangeLeft M w.heap.size)
  case atStart =>
    refine ⟨left0, cnt0, Lib.hid hrg0, Lib.hid hx0, Lib.hid fun n hn h1 h2 => ?_⟩
    rw [hl0 n hn, find_nt, Option.isSome_map] at h2
    rw [h2] at h1
    cases h1
  case round =>
    obtain ⟨left, cnt, HRG, HX, HD⟩ := hrel
    go_wp2_with (first | (at_next; refine wpList_next_sm _ rfl _ rfl 9 Try.underlying9 M w.heap.size (ntL t) left cnt rfl HRG.out ?_ ?_) | go_in)
    · intro hl
      have h3 : R = true := by rw [HR.out]; exact kindsT_true HSZ.out fun n hn h1 => HD.out n hn h1 (hl _)
      have H3 := Lib.hid h3
      clear h3 hl
      go_wp2
      rw [HQ.out, H3.out]
      exact ⟨rfl, HX⟩
    · intro n v w1 cnt1 hn hl hf hrg1 hlt hk1 hen
      have hv : ∃ p, lookN t n = some p ∧ v = whatV p.1 p.2 := by
        rw [find_nt] at hf
        cases hp : lookN t n with
        | none => rw [hp] at hf; simp at hf
        | some p => rw [hp] at hf; simp at hf; exact ⟨p, rfl, hf.symm⟩
      obtain ⟨⟨kd, is⟩, hp, rfl⟩ := hv
      have hkd : kindN t n = kd := by unfold kindN; rw [hp]; rfl
      have hx1 : Ext w w1 := hk1.ext HX.out (by simp)
      have H1 := Lib.hid (And.intro hn (And.intro hp (And.intro hrg1 (And.intro hlt (And.intro hkd hx1)))))
      unfold whatV at hen ⊢
      have HWA : Hid (∀ w2, Calls Try.prog 29 #[.int .i64 kd] w2 fun e w' => e = .returned (.int .i64 (width kd)) ∧ w2 = w') := Lib.hid (fun w2 => bvWidth_any kd w2)
      obtain ⟨wd, hwd⟩ : ∃ wd, wd = width kd := ⟨_, rfl⟩
      rw [← hwd] at HWA
      have HWD := Lib.hid hwd
      clear hn hl hf hrg1 hlt hk1 hp hkd hx1 hwd hrg0 hl0 hx0
      by_cases h0 : wd = 0
      · subst h0
        go_wp2_with (first | (go_at_call 29; refine (HWA.out _).mono ?_; rintro e w2 ⟨rfl, rfl⟩) | fail)
        have h3 : R = false := by rw [HR.out]; exact kindsT_false (n := n) (by rw [H1.out.2.1]; rfl) (by rw [H1.out.2.2.2.2.1]; exact HWD.out.symm)
        rw [HQ.out, h3]
        exact ⟨rfl, Lib.hid (H1.out.2.2.2.2.2.alloc _)⟩
      · have hb0 : (wd == 0) = false := by simpa using h0
        have H0 := Lib.hid h0
        clear h0
        go_wp2_with (first | (go_at_call 29; refine (HWA.out _).mono ?_; rintro e w2 ⟨rfl, rfl⟩) | fail)
        have hrg2 := H1.out.2.2.1.ext ((Ext.refl w1).alloc (.cells #[.int .i64 kd, .int .i64 is] 76))
        refine ⟨⟨_, cnt1, Lib.hid hrg2, Lib.hid (H1.out.2.2.2.2.2.alloc _), Lib.hid fun m hm h4 h5 => ?_⟩, by rw [hrg2.left_eq, HRG.out.left_eq]; exact H1.out.2.2.2.1⟩
        by_cases e : m = n
        · rw [e, H1.out.2.2.2.2.1, ← HWD.out]; exact H0.out
        · rw [sameKey_other e] at h5
          exact HD.out m hm h4 (by simpa using h5)
end Go.Proofs.Ytkjgghbdpmkmoaa

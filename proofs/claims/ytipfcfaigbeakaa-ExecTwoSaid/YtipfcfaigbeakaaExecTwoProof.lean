/-
  ExecTwo: whatever the input, the law returns true, and each argument reads behind the call as it read before.
  Conditions: none.
-/
import Derived.Test.YtipfcfaigbeakaaRows
import Derived.Test.YtipfcfaigbeakaaJPost
import Derived.Test.YtipfcfaigbeakaaExecTwo
import Derived.ProofKit
import Derived.OpenShut
namespace Go.Proofs.Ytipfcfaigbeakaa.execTwo
open Go.ChangeShapes Go.WideShapes Go.ChangeAt Go.RowKit
set_option linter.unusedVariables false

theorem own : ownKnob Try.prog.godebug = none := by kernel_rfl
theorem laid : laidOutB Try.prog = true := by kernel_rfl

set_option maxRecDepth 100000 in
theorem lifted (os : Os) (started : os.Started) (H : Type) (enc : TypeId × Value → H) :
    ReturnsInHanded {} Try.checked os 10 .any (Rows.execTwoSpec.pre6 enc Try.prog Try.f10 Rows.execTwoRow.domain false) (Rows.execTwoSpec.post enc Try.prog Try.f10 false true false false) := by
  refine returnsInHanded_of_change (C := Try.checked) own started (by kernel_rfl) Try.func10
    (ChangeSpec.witness6 (enc := enc) (C := Try.checked) false ⟨#[], #[.agg #[.slice none 0 0, .int .i64 0, .int .i64 0, .int .i64 0, .int .i64 0, .slice none 0 0, .slice none 0 0], .slice none 0 0, .slice none 0 0], []⟩ 8 (by kernel_rfl) (by kernel_rfl) (by kernel_rfl) (by kernel_rfl)) ?_
  intro W base args ds gs before hval0 hW hcnd _
  have hval : ∀ (j : Nat) t v, Try.f10.params[j]? = some t → args[j]? = some v → Value.okWide Try.prog W .any base t v := hval0
  have hW' := hW
  obtain ⟨p, q, hA0, hV, rfl, hfz, hnd⟩ := hW
  have hA : DataW.TrodAll enc Try.prog W 0 (fun _ => true) true Try.f10.params.toList args.toList ds p := hA0
  rw [Try.params10] at hA hval
  obtain ⟨v0, vs0, d0, ds0, p0, q0, hargs, rfl, rfl, h0, r0⟩ := trodAll_cons hA
  obtain ⟨v1, vs1, d1, ds1, p1, q1, rfl, rfl, rfl, h1, r1⟩ := trodAll_cons r0
  obtain ⟨v2, vs2, d2, ds2, p2, q2, rfl, rfl, rfl, h2, r2⟩ := trodAll_cons r1
  obtain ⟨rfl, rfl, rfl⟩ := trodAll_nil r2
  obtain rfl : args = #[v0, v1, v2] := by cases args; simp_all
  obtain ⟨rfl, rfl⟩ := trodVars_none hV
  obtain ⟨c0, k0, i0, b0, rfl, ok0, wf0⟩ := open_code (hval 0 25 v0 rfl rfl) h0
  obtain ⟨u1, r1, s1, y1⟩ := open_rows (hval 1 51 v1 rfl rfl) h1
  obtain ⟨u2, r2, s2, y2⟩ := open_rows (hval 2 51 v2 rfl rfl) h2
  clear hA0 hval0
  refine (execTwo_any c0 k0 i0 b0 v1 v2 u1 u2 r1 r2 W ok0 wf0 s1 s2 y1 y2).mono fun e W' ⟨he, hg⟩ => ?_
  subst he
  exact ⟨_, rfl, post_of_ext2 laid (by kernel_rfl) rfl hW' rfl rfl (fun _ _ _ => (trodAll_cons_mk (shut_bool Try.underlying4 _) trodAll_mk0)) hg⟩

theorem over : Rows.execTwoRow.holds Try.pinned (OpenSpec.ofChange Rows.execTwoSpec) :=
  OpenClaim.holds_of_wide 10 Try.f10 rfl rfl rfl rfl rfl rfl rfl ⟨rfl, rfl, rfl, rfl, rfl⟩ rfl rfl rfl rfl rfl (by kernel_rfl) Try.func10 (by kernel_rfl)
    (of_decide_eq_true (by kernel_rfl)) (by unfold Func.isWrapper; first | (rw [if_pos (by decide +kernel)]; kernel_rfl) | (rw [if_neg (by decide +kernel)]; exact ⟨rfl, rfl⟩))
    (fun os started H enc _ => lifted os started H enc)

theorem proved : Rows.ExecTwoSaid :=
  over
#print axioms proved
end Go.Proofs.Ytipfcfaigbeakaa.execTwo

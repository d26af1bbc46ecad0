/-
  ExecRuns: whatever the input, the law returns true, and each argument reads behind the call as it read before.
  Conditions: none.
-/
import Derived.Test.YtipfcfaigbeakaaRows
import Derived.Test.YtipfcfaigbeakaaJPost
import Derived.Test.YtipfcfaigbeakaaExecRuns
import Derived.Test.YtipfcfaigbeakaaRowsSz
import Derived.ProofKit
import Derived.OpenShut
import Derived.SizedLaws
import Derived.Deep.CondSized
namespace Go.Proofs.Ytipfcfaigbeakaa.execRuns
open Go.ChangeShapes Go.WideShapes Go.ChangeAt Go.RowKit
set_option linter.unusedVariables false

theorem own : ownKnob Try.prog.godebug = none := by kernel_rfl
theorem laid : laidOutB Try.prog = true := by kernel_rfl

set_option maxRecDepth 100000 in
theorem lifted (os : Os) (started : os.Started) (H : Type) (enc : TypeId × Value → H) (F : Stop.Interp) :
    ReturnsInHanded {} Try.checked os 13 .any ((Rows.OpenSpec.upto Rows.execRunsSpec).pre6 enc Try.prog Try.f13 Rows.execRunsUptoRow.domain false) (((Rows.OpenSpec.upto Rows.execRunsSpec).at F).post enc Try.prog Try.f13 false true false false) := by
  refine returnsInHanded_of_cond_sized (C := Try.checked) (s := Rows.OpenSpec.upto Rows.execRunsSpec) (k := Rows.uptoSmall) rfl own started (by kernel_rfl) Try.func13
    (OpenSpec.witness (enc := enc) (C := Try.checked) (s := Rows.OpenSpec.upto Rows.execRunsSpec) (k := Rows.uptoSmall) rfl false ⟨#[], #[.agg #[.slice none 0 0, .int .i64 0, .int .i64 0, .int .i64 0, .int .i64 0, .slice none 0 0, .slice none 0 0], .slice none 0 0], []⟩ 8 (by kernel_rfl) (by kernel_rfl) (by kernel_rfl)
      (x := ([.agg [.nil, .lit (.int .i64 0), .lit (.int .i64 0), .lit (.int .i64 0), .lit (.int .i64 0), .nil, .nil], .nil], [], [])) (by kernel_rfl) rfl (by kernel_rfl)) ?_
  intro W base args ds gs before hval0 hW hcnd hk hzz _
  have hval : ∀ (j : Nat) t v, Try.f13.params[j]? = some t → args[j]? = some v → Value.okWide Try.prog W .any base t v := hval0
  have hW' := hW
  obtain ⟨p, q, hA0, hV, rfl, hfz, hnd⟩ := hW
  have hA : DataW.TrodAll enc Try.prog W 0 (fun _ => true) true Try.f13.params.toList args.toList ds p := hA0
  rw [Try.params13] at hA hval
  obtain ⟨v0, vs0, d0, ds0, p0, q0, hargs, rfl, rfl, h0, r0⟩ := trodAll_cons hA
  obtain ⟨v1, vs1, d1, ds1, p1, q1, rfl, rfl, rfl, h1, r1⟩ := trodAll_cons r0
  obtain ⟨rfl, rfl, rfl⟩ := trodAll_nil r1
  obtain rfl : args = #[v0, v1] := by cases args; simp_all
  obtain ⟨rfl, rfl⟩ := trodVars_none hV
  obtain ⟨c0, k0, i0, b0, rfl, ok0, wf0⟩ := open_code (hval 0 25 v0 rfl rfl) h0
  have z1 : ∀ n ∈ d1.weights Try.prog 51, n ≤ reachBytes := fun n hn => by
    have := List.all_eq_true.1 hzz n (DataW.weights_mem_each (j := 1) (t := 51) (d := d1) (by rw [Try.params13]; rfl) rfl n hn)
    simpa using this
  obtain ⟨u1, r1, s1, y1, x1⟩ := open_rows_sz (hval 1 51 v1 rfl rfl) h1 z1
  clear hA0 hval0
  refine (execRuns_any c0 k0 i0 b0 v1 u1 r1 W ok0 wf0 s1 y1 x1).mono fun e W' ⟨he, hg⟩ => ?_
  subst he
  exact ⟨_, rfl, post_of_ext2 laid (by kernel_rfl) rfl hW' rfl rfl (fun _ _ _ => (trodAll_cons_mk (shut_bool Try.underlying4 _) trodAll_mk0)) hg⟩

theorem over : Rows.execRunsUptoRow.holds Try.pinned (Rows.OpenSpec.upto Rows.execRunsSpec) :=
  OpenClaim.holds_of_cond 13 Try.f13 rfl rfl rfl rfl rfl rfl rfl ⟨rfl, rfl, rfl, rfl, rfl⟩ rfl rfl rfl rfl rfl (by kernel_rfl) Try.func13 (by kernel_rfl)
    (of_decide_eq_true (by kernel_rfl)) (by unfold Func.isWrapper; first | (rw [if_pos (by decide +kernel)]; kernel_rfl) | (rw [if_neg (by decide +kernel)]; exact ⟨rfl, rfl⟩))
    (fun os started H enc _ F => lifted os started H enc F)

theorem proved : Rows.ExecRunsUptoSaid :=
  over
#print axioms proved
end Go.Proofs.Ytipfcfaigbeakaa.execRuns

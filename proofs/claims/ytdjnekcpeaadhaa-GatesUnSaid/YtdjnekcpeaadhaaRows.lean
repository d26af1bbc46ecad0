/-
  No cell of these rows narrows 'for every input' (looked for: loops, veiled, ifaces, maps, wideKeys, modest, calm, conditions, laid).
  DERIVED. THE GIVEN ROWS OF THIS SEAT. 3 by the template 'for every input the law returns true; each argument reads behind the call as it read before'; 0 by the template 'total and deterministic' (their statements: YtdjnekcpeaadhaaTotals.lean).
  GIVEN WITH THE SEED: the statements are not yours to turn. If you find one false, say at which input.
  Laid BY PROGRAM, IN A SANDBOX (cutbox-rows.mjs): the forced cells as the released guide's own fill.sh prints them over the translation 2475e6643c65e864… (all of the seat's roots in one cut). By AI agents, Wed Nov 11 2026. No macro, syntax, notation, axiom, sorry.
-/
import Derived.Test.YtdjnekcpeaadhaaChecked
import GoSem.Claim
import GoSem.ClaimJoined
import GoSem.ClaimMapViews
import Derived.JoinedTies
import Derived.KernelRfl
namespace Go.Proofs.Ytdjnekcpeaadhaa
/- THE CELL 'sum', in the pinned program and in every row, IS THE sha256 OF THE DUMP (.gsa) THAT YtdjnekcpeaadhaaProg.lean LOADS. Nothing in Lean hashes anything: it is a label: what it is worth is what the hold of that sum in a sandbox is worth. -/
noncomputable def Try.pinned : Pinned := { name := "ytdjnekcpeaadhaa", sum := "2475e6643c65e864885d0474fac8f7702e2332803a74ded6cae02c892e40afbc", checked := Try.checked }
namespace Rows
def none {H : Type} : Left H := { results := [], args := [] }

/-- 'metronomelaw22.GatesAlike': WHATEVER THE INPUT: true; the input reads as it did. -/
def gatesAlikeSpec : ChangeSpec := { name := "gatesAlike", fn := fun _ => fun
  | [d1, d2, d3] => { results := [.lit (.bool true)], args := [d1, d2, d3] }
  | _ => none }
def gatesAlikeRow : OpenClaim := { program := "ytdjnekcpeaadhaa", sum := "2475e6643c65e864885d0474fac8f7702e2332803a74ded6cae02c892e40afbc", func := "metronome/metronomelaw22.GatesAlike", spec := "gatesAlike", unfollowed := true, recurses := true, plainKeys := false, apart := false }
def GatesAlikeSaid : Prop := gatesAlikeRow.holds Try.pinned (OpenSpec.ofChange gatesAlikeSpec)

/-- ITS FALSE NEIGHBOUR: 'it returns false'. Refute it at one input. -/
def gatesAlikeWrong : ChangeSpec := { name := "gatesAlike", fn := fun _ => fun
  | [d1, d2, d3] => { results := [.lit (.bool false)], args := [d1, d2, d3] }
  | _ => none }
def GatesAlikeWrongFalsely : Prop := gatesAlikeRow.holds Try.pinned (OpenSpec.ofChange gatesAlikeWrong)

/-- 'metronomelaw22.GatesUn': WHATEVER THE INPUT: true; the input reads as it did. -/
def gatesUnSpec : ChangeSpec := { name := "gatesUn", fn := fun _ => fun
  | [d1, d2, d3, d4] => { results := [.lit (.bool true)], args := [d1, d2, d3, d4] }
  | _ => none }
def gatesUnRow : OpenClaim := { program := "ytdjnekcpeaadhaa", sum := "2475e6643c65e864885d0474fac8f7702e2332803a74ded6cae02c892e40afbc", func := "metronome/metronomelaw22.GatesUn", spec := "gatesUn", unfollowed := true, recurses := true, plainKeys := false, apart := false }
def GatesUnSaid : Prop := gatesUnRow.holds Try.pinned (OpenSpec.ofChange gatesUnSpec)

/-- ITS FALSE NEIGHBOUR: 'it returns false'. Refute it at one input. -/
def gatesUnWrong : ChangeSpec := { name := "gatesUn", fn := fun _ => fun
  | [d1, d2, d3, d4] => { results := [.lit (.bool false)], args := [d1, d2, d3, d4] }
  | _ => none }
def GatesUnWrongFalsely : Prop := gatesUnRow.holds Try.pinned (OpenSpec.ofChange gatesUnWrong)

/-- 'metronomelaw22.GatesEvals': WHATEVER THE INPUT: true; the input reads as it did. -/
def gatesEvalsSpec : ChangeSpec := { name := "gatesEvals", fn := fun _ => fun
  | [d1, d2] => { results := [.lit (.bool true)], args := [d1, d2] }
  | _ => none }
def gatesEvalsRow : OpenClaim := { program := "ytdjnekcpeaadhaa", sum := "2475e6643c65e864885d0474fac8f7702e2332803a74ded6cae02c892e40afbc", func := "metronome/metronomelaw22.GatesEvals", spec := "gatesEvals", unfollowed := true, recurses := true, plainKeys := false, apart := false }
def GatesEvalsSaid : Prop := gatesEvalsRow.holds Try.pinned (OpenSpec.ofChange gatesEvalsSpec)

/-- ITS FALSE NEIGHBOUR: 'it returns false'. Refute it at one input. -/
def gatesEvalsWrong : ChangeSpec := { name := "gatesEvals", fn := fun _ => fun
  | [d1, d2] => { results := [.lit (.bool false)], args := [d1, d2] }
  | _ => none }
def GatesEvalsWrongFalsely : Prop := gatesEvalsRow.holds Try.pinned (OpenSpec.ofChange gatesEvalsWrong)

/- THE SECOND FORM. 'bulk': how many values and letters a reading holds, each counted each time it is reached (what is shared counts as often as it is met; a slice's spare places count too). A statement '..UptoSaid' is the law's where the arguments, and the package variables that the reading takes, are together of bulk at most 1048576: NARROWER than '..Said'. Prove '..Said' where nothing that the law and all that it calls make is longer than what came in: it says more and counts as full. Else prove '..UptoSaid'. A law counts once. -/
mutual
def uptoBulk {H : Type} : DataW H → Nat
  | .lit (.string bytes) => bytes.length + 1
  | .lit _ => 1
  | .nil => 1
  | .ptr d => uptoBulk d + 1
  | .slice elems spare => uptoBulkAll elems + uptoBulkAll spare + 1
  | .agg parts => uptoBulkAll parts + 1
  | .iface _ d => uptoBulk d + 1
  | .map entries => uptoBulkEntries entries + 1
  | .held _ => 1
def uptoBulkAll {H : Type} : List (DataW H) → Nat
  | [] => 0
  | d :: r => uptoBulk d + uptoBulkAll r
def uptoBulkEntries {H : Type} : List (Lit × DataW H) → Nat
  | [] => 0
  | x :: r => uptoBulkEntry x + uptoBulkEntries r
def uptoBulkEntry {H : Type} : Lit × DataW H → Nat
  | (.string bytes, d) => bytes.length + uptoBulk d + 1
  | (_, d) => uptoBulk d + 1
 end
def uptoSmall : (H : Type) → List (DataW H) → Bool := fun _ ds => decide (uptoBulkAll ds ≤ 1048576)
def OpenSpec.upto (s : _root_.Go.ChangeSpec) : _root_.Go.OpenSpec := { _root_.Go.OpenSpec.ofChange s with cond := some uptoSmall }

/-- 'metronomelaw22.GatesAlike', WHERE WHAT IT READS IS OF BULK AT MOST 1048576: true; the input reads as it did. -/
def gatesAlikeUptoRow : OpenClaim := { program := "ytdjnekcpeaadhaa", sum := "2475e6643c65e864885d0474fac8f7702e2332803a74ded6cae02c892e40afbc", func := "metronome/metronomelaw22.GatesAlike", spec := "gatesAlike", unfollowed := true, recurses := true, plainKeys := false, apart := false, narrowed := true }
def GatesAlikeUptoSaid : Prop := gatesAlikeUptoRow.holds Try.pinned (OpenSpec.upto gatesAlikeSpec)

/-- 'metronomelaw22.GatesUn', WHERE WHAT IT READS IS OF BULK AT MOST 1048576: true; the input reads as it did. -/
def gatesUnUptoRow : OpenClaim := { program := "ytdjnekcpeaadhaa", sum := "2475e6643c65e864885d0474fac8f7702e2332803a74ded6cae02c892e40afbc", func := "metronome/metronomelaw22.GatesUn", spec := "gatesUn", unfollowed := true, recurses := true, plainKeys := false, apart := false, narrowed := true }
def GatesUnUptoSaid : Prop := gatesUnUptoRow.holds Try.pinned (OpenSpec.upto gatesUnSpec)

/-- 'metronomelaw22.GatesEvals', WHERE WHAT IT READS IS OF BULK AT MOST 1048576: true; the input reads as it did. -/
def gatesEvalsUptoRow : OpenClaim := { program := "ytdjnekcpeaadhaa", sum := "2475e6643c65e864885d0474fac8f7702e2332803a74ded6cae02c892e40afbc", func := "metronome/metronomelaw22.GatesEvals", spec := "gatesEvals", unfollowed := true, recurses := true, plainKeys := false, apart := false, narrowed := true }
def GatesEvalsUptoSaid : Prop := gatesEvalsUptoRow.holds Try.pinned (OpenSpec.upto gatesEvalsSpec)

end Rows
end Go.Proofs.Ytdjnekcpeaadhaa

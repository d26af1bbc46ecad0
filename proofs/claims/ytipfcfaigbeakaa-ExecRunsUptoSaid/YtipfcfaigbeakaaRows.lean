/-
  No cell of these rows narrows 'for every input' (looked for: loops, veiled, ifaces, maps, wideKeys, modest, calm, conditions, laid).
  DERIVED. THE GIVEN ROWS OF THIS SEAT. 12 by the template 'for every input the law returns true; each argument reads behind the call as it read before'; 0 by the template 'total and deterministic' (their statements: YtipfcfaigbeakaaTotals.lean).
  GIVEN WITH THE SEED: the statements are not yours to turn. If you find one false, say at which input.
  Laid BY PROGRAM, IN A SANDBOX (cutbox-rows.mjs): the forced cells as the released guide's own fill.sh prints them over the translation 9a5516e496c47976… (all of the seat's roots in one cut). By AI agents, Wed Nov 11 2026. No macro, syntax, notation, axiom, sorry.
-/
import Derived.Test.YtipfcfaigbeakaaChecked
import GoSem.Claim
import GoSem.ClaimJoined
import GoSem.ClaimMapViews
import Derived.JoinedTies
import Derived.KernelRfl
namespace Go.Proofs.Ytipfcfaigbeakaa
/- THE CELL 'sum', in the pinned program and in every row, IS THE sha256 OF THE DUMP (.gsa) THAT YtipfcfaigbeakaaProg.lean LOADS. Nothing in Lean hashes anything: it is a label: what it is worth is what the hold of that sum in a sandbox is worth. -/
noncomputable def Try.pinned : Pinned := { name := "ytipfcfaigbeakaa", sum := "9a5516e496c47976be6d48f47413f41bf1b8aafe0009847c5d39d0eaa779b8b5", checked := Try.checked }
namespace Rows
def none {H : Type} : Left H := { results := [], args := [] }

/-- 'metronomelaw19.CodeChecks': WHATEVER THE INPUT: true; the input reads as it did. -/
def codeChecksSpec : ChangeSpec := { name := "codeChecks", fn := fun _ => fun
  | [d] => { results := [.lit (.bool true)], args := [d] }
  | _ => none }
def codeChecksRow : OpenClaim := { program := "ytipfcfaigbeakaa", sum := "9a5516e496c47976be6d48f47413f41bf1b8aafe0009847c5d39d0eaa779b8b5", func := "metronome/metronomelaw19.CodeChecks", spec := "codeChecks", unfollowed := true, recurses := true, apart := false }
def CodeChecksSaid : Prop := codeChecksRow.holds Try.pinned (OpenSpec.ofChange codeChecksSpec)

/-- ITS FALSE NEIGHBOUR: 'it returns false'. Refute it at one input. -/
def codeChecksWrong : ChangeSpec := { name := "codeChecks", fn := fun _ => fun
  | [d] => { results := [.lit (.bool false)], args := [d] }
  | _ => none }
def CodeChecksWrongFalsely : Prop := codeChecksRow.holds Try.pinned (OpenSpec.ofChange codeChecksWrong)

/-- 'metronomelaw19.CodeJumps': WHATEVER THE INPUT: true; the input reads as it did. -/
def codeJumpsSpec : ChangeSpec := { name := "codeJumps", fn := fun _ => fun
  | [d1, d2, d3, d4] => { results := [.lit (.bool true)], args := [d1, d2, d3, d4] }
  | _ => none }
def codeJumpsRow : OpenClaim := { program := "ytipfcfaigbeakaa", sum := "9a5516e496c47976be6d48f47413f41bf1b8aafe0009847c5d39d0eaa779b8b5", func := "metronome/metronomelaw19.CodeJumps", spec := "codeJumps", unfollowed := true, recurses := true, apart := false }
def CodeJumpsSaid : Prop := codeJumpsRow.holds Try.pinned (OpenSpec.ofChange codeJumpsSpec)

/-- ITS FALSE NEIGHBOUR: 'it returns false'. Refute it at one input. -/
def codeJumpsWrong : ChangeSpec := { name := "codeJumps", fn := fun _ => fun
  | [d1, d2, d3, d4] => { results := [.lit (.bool false)], args := [d1, d2, d3, d4] }
  | _ => none }
def CodeJumpsWrongFalsely : Prop := codeJumpsRow.holds Try.pinned (OpenSpec.ofChange codeJumpsWrong)

/-- 'metronomelaw19.CodeWrong': WHATEVER THE INPUT: true; the input reads as it did. -/
def codeWrongSpec : ChangeSpec := { name := "codeWrong", fn := fun _ => fun
  | [d] => { results := [.lit (.bool true)], args := [d] }
  | _ => none }
def codeWrongRow : OpenClaim := { program := "ytipfcfaigbeakaa", sum := "9a5516e496c47976be6d48f47413f41bf1b8aafe0009847c5d39d0eaa779b8b5", func := "metronome/metronomelaw19.CodeWrong", spec := "codeWrong", unfollowed := true, recurses := true, apart := false }
def CodeWrongSaid : Prop := codeWrongRow.holds Try.pinned (OpenSpec.ofChange codeWrongSpec)

/-- ITS FALSE NEIGHBOUR: 'it returns false'. Refute it at one input. -/
def codeWrongWrong : ChangeSpec := { name := "codeWrong", fn := fun _ => fun
  | [d] => { results := [.lit (.bool false)], args := [d] }
  | _ => none }
def CodeWrongWrongFalsely : Prop := codeWrongRow.holds Try.pinned (OpenSpec.ofChange codeWrongWrong)

/-- 'metronomelaw19.CodeStacks': WHATEVER THE INPUT: true; the input reads as it did. -/
def codeStacksSpec : ChangeSpec := { name := "codeStacks", fn := fun _ => fun
  | [d1, d2] => { results := [.lit (.bool true)], args := [d1, d2] }
  | _ => none }
def codeStacksRow : OpenClaim := { program := "ytipfcfaigbeakaa", sum := "9a5516e496c47976be6d48f47413f41bf1b8aafe0009847c5d39d0eaa779b8b5", func := "metronome/metronomelaw19.CodeStacks", spec := "codeStacks", unfollowed := true, recurses := true, apart := false }
def CodeStacksSaid : Prop := codeStacksRow.holds Try.pinned (OpenSpec.ofChange codeStacksSpec)

/-- ITS FALSE NEIGHBOUR: 'it returns false'. Refute it at one input. -/
def codeStacksWrong : ChangeSpec := { name := "codeStacks", fn := fun _ => fun
  | [d1, d2] => { results := [.lit (.bool false)], args := [d1, d2] }
  | _ => none }
def CodeStacksWrongFalsely : Prop := codeStacksRow.holds Try.pinned (OpenSpec.ofChange codeStacksWrong)

/-- 'metronomelaw19.CodeWrites': WHATEVER THE INPUT: true; the input reads as it did. -/
def codeWritesSpec : ChangeSpec := { name := "codeWrites", fn := fun _ => fun
  | [d1, d2] => { results := [.lit (.bool true)], args := [d1, d2] }
  | _ => none }
def codeWritesRow : OpenClaim := { program := "ytipfcfaigbeakaa", sum := "9a5516e496c47976be6d48f47413f41bf1b8aafe0009847c5d39d0eaa779b8b5", func := "metronome/metronomelaw19.CodeWrites", spec := "codeWrites", unfollowed := true, recurses := true, apart := false }
def CodeWritesSaid : Prop := codeWritesRow.holds Try.pinned (OpenSpec.ofChange codeWritesSpec)

/-- ITS FALSE NEIGHBOUR: 'it returns false'. Refute it at one input. -/
def codeWritesWrong : ChangeSpec := { name := "codeWrites", fn := fun _ => fun
  | [d1, d2] => { results := [.lit (.bool false)], args := [d1, d2] }
  | _ => none }
def CodeWritesWrongFalsely : Prop := codeWritesRow.holds Try.pinned (OpenSpec.ofChange codeWritesWrong)

/-- 'metronomelaw19.CodeParses': WHATEVER THE INPUT: true; the input reads as it did. -/
def codeParsesSpec : ChangeSpec := { name := "codeParses", fn := fun _ => fun
  | [d1, d2] => { results := [.lit (.bool true)], args := [d1, d2] }
  | _ => none }
def codeParsesRow : OpenClaim := { program := "ytipfcfaigbeakaa", sum := "9a5516e496c47976be6d48f47413f41bf1b8aafe0009847c5d39d0eaa779b8b5", func := "metronome/metronomelaw19.CodeParses", spec := "codeParses", unfollowed := true, recurses := true, apart := false }
def CodeParsesSaid : Prop := codeParsesRow.holds Try.pinned (OpenSpec.ofChange codeParsesSpec)

/-- ITS FALSE NEIGHBOUR: 'it returns false'. Refute it at one input. -/
def codeParsesWrong : ChangeSpec := { name := "codeParses", fn := fun _ => fun
  | [d1, d2] => { results := [.lit (.bool false)], args := [d1, d2] }
  | _ => none }
def CodeParsesWrongFalsely : Prop := codeParsesRow.holds Try.pinned (OpenSpec.ofChange codeParsesWrong)

/-- 'metronomelaw19.CodeNumbers': WHATEVER THE INPUT: true; the input reads as it did. -/
def codeNumbersSpec : ChangeSpec := { name := "codeNumbers", fn := fun _ => fun
  | [d] => { results := [.lit (.bool true)], args := [d] }
  | _ => none }
def codeNumbersRow : OpenClaim := { program := "ytipfcfaigbeakaa", sum := "9a5516e496c47976be6d48f47413f41bf1b8aafe0009847c5d39d0eaa779b8b5", func := "metronome/metronomelaw19.CodeNumbers", spec := "codeNumbers", unfollowed := true, recurses := true, apart := false }
def CodeNumbersSaid : Prop := codeNumbersRow.holds Try.pinned (OpenSpec.ofChange codeNumbersSpec)

/-- ITS FALSE NEIGHBOUR: 'it returns false'. Refute it at one input. -/
def codeNumbersWrong : ChangeSpec := { name := "codeNumbers", fn := fun _ => fun
  | [d] => { results := [.lit (.bool false)], args := [d] }
  | _ => none }
def CodeNumbersWrongFalsely : Prop := codeNumbersRow.holds Try.pinned (OpenSpec.ofChange codeNumbersWrong)

/-- 'metronomelaw21.ExecTwo': WHATEVER THE INPUT: true; the input reads as it did. -/
def execTwoSpec : ChangeSpec := { name := "execTwo", fn := fun _ => fun
  | [d1, d2, d3] => { results := [.lit (.bool true)], args := [d1, d2, d3] }
  | _ => none }
def execTwoRow : OpenClaim := { program := "ytipfcfaigbeakaa", sum := "9a5516e496c47976be6d48f47413f41bf1b8aafe0009847c5d39d0eaa779b8b5", func := "metronome/metronomelaw21.ExecTwo", spec := "execTwo", unfollowed := true, recurses := true, apart := false }
def ExecTwoSaid : Prop := execTwoRow.holds Try.pinned (OpenSpec.ofChange execTwoSpec)

/-- ITS FALSE NEIGHBOUR: 'it returns false'. Refute it at one input. -/
def execTwoWrong : ChangeSpec := { name := "execTwo", fn := fun _ => fun
  | [d1, d2, d3] => { results := [.lit (.bool false)], args := [d1, d2, d3] }
  | _ => none }
def ExecTwoWrongFalsely : Prop := execTwoRow.holds Try.pinned (OpenSpec.ofChange execTwoWrong)

/-- 'metronomelaw21.ExecRefuses': WHATEVER THE INPUT: true; the input reads as it did. -/
def execRefusesSpec : ChangeSpec := { name := "execRefuses", fn := fun _ => fun
  | [d1, d2, d3] => { results := [.lit (.bool true)], args := [d1, d2, d3] }
  | _ => none }
def execRefusesRow : OpenClaim := { program := "ytipfcfaigbeakaa", sum := "9a5516e496c47976be6d48f47413f41bf1b8aafe0009847c5d39d0eaa779b8b5", func := "metronome/metronomelaw21.ExecRefuses", spec := "execRefuses", unfollowed := true, recurses := true, apart := false }
def ExecRefusesSaid : Prop := execRefusesRow.holds Try.pinned (OpenSpec.ofChange execRefusesSpec)

/-- ITS FALSE NEIGHBOUR: 'it returns false'. Refute it at one input. -/
def execRefusesWrong : ChangeSpec := { name := "execRefuses", fn := fun _ => fun
  | [d1, d2, d3] => { results := [.lit (.bool false)], args := [d1, d2, d3] }
  | _ => none }
def ExecRefusesWrongFalsely : Prop := execRefusesRow.holds Try.pinned (OpenSpec.ofChange execRefusesWrong)

/-- 'metronomelaw21.ExecTicks': WHATEVER THE INPUT: true; the input reads as it did. -/
def execTicksSpec : ChangeSpec := { name := "execTicks", fn := fun _ => fun
  | [d1, d2] => { results := [.lit (.bool true)], args := [d1, d2] }
  | _ => none }
def execTicksRow : OpenClaim := { program := "ytipfcfaigbeakaa", sum := "9a5516e496c47976be6d48f47413f41bf1b8aafe0009847c5d39d0eaa779b8b5", func := "metronome/metronomelaw21.ExecTicks", spec := "execTicks", unfollowed := true, recurses := true, apart := false }
def ExecTicksSaid : Prop := execTicksRow.holds Try.pinned (OpenSpec.ofChange execTicksSpec)

/-- ITS FALSE NEIGHBOUR: 'it returns false'. Refute it at one input. -/
def execTicksWrong : ChangeSpec := { name := "execTicks", fn := fun _ => fun
  | [d1, d2] => { results := [.lit (.bool false)], args := [d1, d2] }
  | _ => none }
def ExecTicksWrongFalsely : Prop := execTicksRow.holds Try.pinned (OpenSpec.ofChange execTicksWrong)

/-- 'metronomelaw21.ExecRuns': WHATEVER THE INPUT: true; the input reads as it did. -/
def execRunsSpec : ChangeSpec := { name := "execRuns", fn := fun _ => fun
  | [d1, d2] => { results := [.lit (.bool true)], args := [d1, d2] }
  | _ => none }
def execRunsRow : OpenClaim := { program := "ytipfcfaigbeakaa", sum := "9a5516e496c47976be6d48f47413f41bf1b8aafe0009847c5d39d0eaa779b8b5", func := "metronome/metronomelaw21.ExecRuns", spec := "execRuns", unfollowed := true, recurses := true, apart := false }
def ExecRunsSaid : Prop := execRunsRow.holds Try.pinned (OpenSpec.ofChange execRunsSpec)

/-- ITS FALSE NEIGHBOUR: 'it returns false'. Refute it at one input. -/
def execRunsWrong : ChangeSpec := { name := "execRuns", fn := fun _ => fun
  | [d1, d2] => { results := [.lit (.bool false)], args := [d1, d2] }
  | _ => none }
def ExecRunsWrongFalsely : Prop := execRunsRow.holds Try.pinned (OpenSpec.ofChange execRunsWrong)

/-- 'metronomelaw21.ExecBound': WHATEVER THE INPUT: true; the input reads as it did. -/
def execBoundSpec : ChangeSpec := { name := "execBound", fn := fun _ => fun
  | [d1, d2] => { results := [.lit (.bool true)], args := [d1, d2] }
  | _ => none }
def execBoundRow : OpenClaim := { program := "ytipfcfaigbeakaa", sum := "9a5516e496c47976be6d48f47413f41bf1b8aafe0009847c5d39d0eaa779b8b5", func := "metronome/metronomelaw21.ExecBound", spec := "execBound", unfollowed := true, recurses := true, apart := false }
def ExecBoundSaid : Prop := execBoundRow.holds Try.pinned (OpenSpec.ofChange execBoundSpec)

/-- ITS FALSE NEIGHBOUR: 'it returns false'. Refute it at one input. -/
def execBoundWrong : ChangeSpec := { name := "execBound", fn := fun _ => fun
  | [d1, d2] => { results := [.lit (.bool false)], args := [d1, d2] }
  | _ => none }
def ExecBoundWrongFalsely : Prop := execBoundRow.holds Try.pinned (OpenSpec.ofChange execBoundWrong)

/- THE SECOND FORM. 'bulk': how many values and letters a reading holds, each counted each time it is reached (what is shared counts as often as it is met; a slice's spare places count too). A statement '..UptoSaid' is the law's where the arguments, and the package variables that the reading takes, are together of bulk at most 1048576: NARROWER than '..Said'. Prove '..Said' where nothing that the law and all that it calls make is longer than what came in: it says more and counts as full. Else prove '..UptoSaid'. A law counts once. -/
mutual
def uptoBulk {H : Type} : DataW H → Nat
  | .lit (.string bytes) => bytes.length + 1
  | .lit _ => 1
  | .nil => 1
  | .ptr d => uptoBulk d + 1
  | .slice elems spare => uptoBulkAll elems + uptoBulkAll spare + 1
  | .agg parts => uptoBulkAll parts + 1
  | .iface _ d => uptoBulk d + 1
  | .map entries => uptoBulkEntries entries + 1
  | .held _ => 1
def uptoBulkAll {H : Type} : List (DataW H) → Nat
  | [] => 0
  | d :: r => uptoBulk d + uptoBulkAll r
def uptoBulkEntries {H : Type} : List (Lit × DataW H) → Nat
  | [] => 0
  | x :: r => uptoBulkEntry x + uptoBulkEntries r
def uptoBulkEntry {H : Type} : Lit × DataW H → Nat
  | (.string bytes, d) => bytes.length + uptoBulk d + 1
  | (_, d) => uptoBulk d + 1
 end
def uptoSmall : (H : Type) → List (DataW H) → Bool := fun _ ds => decide (uptoBulkAll ds ≤ 1048576)
def OpenSpec.upto (s : _root_.Go.ChangeSpec) : _root_.Go.OpenSpec := { _root_.Go.OpenSpec.ofChange s with cond := some uptoSmall }

/-- 'metronomelaw19.CodeChecks', WHERE WHAT IT READS IS OF BULK AT MOST 1048576: true; the input reads as it did. -/
def codeChecksUptoRow : OpenClaim := { program := "ytipfcfaigbeakaa", sum := "9a5516e496c47976be6d48f47413f41bf1b8aafe0009847c5d39d0eaa779b8b5", func := "metronome/metronomelaw19.CodeChecks", spec := "codeChecks", unfollowed := true, recurses := true, apart := false, narrowed := true }
def CodeChecksUptoSaid : Prop := codeChecksUptoRow.holds Try.pinned (OpenSpec.upto codeChecksSpec)

/-- 'metronomelaw19.CodeJumps', WHERE WHAT IT READS IS OF BULK AT MOST 1048576: true; the input reads as it did. -/
def codeJumpsUptoRow : OpenClaim := { program := "ytipfcfaigbeakaa", sum := "9a5516e496c47976be6d48f47413f41bf1b8aafe0009847c5d39d0eaa779b8b5", func := "metronome/metronomelaw19.CodeJumps", spec := "codeJumps", unfollowed := true, recurses := true, apart := false, narrowed := true }
def CodeJumpsUptoSaid : Prop := codeJumpsUptoRow.holds Try.pinned (OpenSpec.upto codeJumpsSpec)

/-- 'metronomelaw19.CodeWrong', WHERE WHAT IT READS IS OF BULK AT MOST 1048576: true; the input reads as it did. -/
def codeWrongUptoRow : OpenClaim := { program := "ytipfcfaigbeakaa", sum := "9a5516e496c47976be6d48f47413f41bf1b8aafe0009847c5d39d0eaa779b8b5", func := "metronome/metronomelaw19.CodeWrong", spec := "codeWrong", unfollowed := true, recurses := true, apart := false, narrowed := true }
def CodeWrongUptoSaid : Prop := codeWrongUptoRow.holds Try.pinned (OpenSpec.upto codeWrongSpec)

/-- 'metronomelaw19.CodeStacks', WHERE WHAT IT READS IS OF BULK AT MOST 1048576: true; the input reads as it did. -/
def codeStacksUptoRow : OpenClaim := { program := "ytipfcfaigbeakaa", sum := "9a5516e496c47976be6d48f47413f41bf1b8aafe0009847c5d39d0eaa779b8b5", func := "metronome/metronomelaw19.CodeStacks", spec := "codeStacks", unfollowed := true, recurses := true, apart := false, narrowed := true }
def CodeStacksUptoSaid : Prop := codeStacksUptoRow.holds Try.pinned (OpenSpec.upto codeStacksSpec)

/-- 'metronomelaw19.CodeWrites', WHERE WHAT IT READS IS OF BULK AT MOST 1048576: true; the input reads as it did. -/
def codeWritesUptoRow : OpenClaim := { program := "ytipfcfaigbeakaa", sum := "9a5516e496c47976be6d48f47413f41bf1b8aafe0009847c5d39d0eaa779b8b5", func := "metronome/metronomelaw19.CodeWrites", spec := "codeWrites", unfollowed := true, recurses := true, apart := false, narrowed := true }
def CodeWritesUptoSaid : Prop := codeWritesUptoRow.holds Try.pinned (OpenSpec.upto codeWritesSpec)

/-- 'metronomelaw19.CodeParses', WHERE WHAT IT READS IS OF BULK AT MOST 1048576: true; the input reads as it did. -/
def codeParsesUptoRow : OpenClaim := { program := "ytipfcfaigbeakaa", sum := "9a5516e496c47976be6d48f47413f41bf1b8aafe0009847c5d39d0eaa779b8b5", func := "metronome/metronomelaw19.CodeParses", spec := "codeParses", unfollowed := true, recurses := true, apart := false, narrowed := true }
def CodeParsesUptoSaid : Prop := codeParsesUptoRow.holds Try.pinned (OpenSpec.upto codeParsesSpec)

/-- 'metronomelaw19.CodeNumbers', WHERE WHAT IT READS IS OF BULK AT MOST 1048576: true; the input reads as it did. -/
def codeNumbersUptoRow : OpenClaim := { program := "ytipfcfaigbeakaa", sum := "9a5516e496c47976be6d48f47413f41bf1b8aafe0009847c5d39d0eaa779b8b5", func := "metronome/metronomelaw19.CodeNumbers", spec := "codeNumbers", unfollowed := true, recurses := true, apart := false, narrowed := true }
def CodeNumbersUptoSaid : Prop := codeNumbersUptoRow.holds Try.pinned (OpenSpec.upto codeNumbersSpec)

/-- 'metronomelaw21.ExecTwo', WHERE WHAT IT READS IS OF BULK AT MOST 1048576: true; the input reads as it did. -/
def execTwoUptoRow : OpenClaim := { program := "ytipfcfaigbeakaa", sum := "9a5516e496c47976be6d48f47413f41bf1b8aafe0009847c5d39d0eaa779b8b5", func := "metronome/metronomelaw21.ExecTwo", spec := "execTwo", unfollowed := true, recurses := true, apart := false, narrowed := true }
def ExecTwoUptoSaid : Prop := execTwoUptoRow.holds Try.pinned (OpenSpec.upto execTwoSpec)

/-- 'metronomelaw21.ExecRefuses', WHERE WHAT IT READS IS OF BULK AT MOST 1048576: true; the input reads as it did. -/
def execRefusesUptoRow : OpenClaim := { program := "ytipfcfaigbeakaa", sum := "9a5516e496c47976be6d48f47413f41bf1b8aafe0009847c5d39d0eaa779b8b5", func := "metronome/metronomelaw21.ExecRefuses", spec := "execRefuses", unfollowed := true, recurses := true, apart := false, narrowed := true }
def ExecRefusesUptoSaid : Prop := execRefusesUptoRow.holds Try.pinned (OpenSpec.upto execRefusesSpec)

/-- 'metronomelaw21.ExecTicks', WHERE WHAT IT READS IS OF BULK AT MOST 1048576: true; the input reads as it did. -/
def execTicksUptoRow : OpenClaim := { program := "ytipfcfaigbeakaa", sum := "9a5516e496c47976be6d48f47413f41bf1b8aafe0009847c5d39d0eaa779b8b5", func := "metronome/metronomelaw21.ExecTicks", spec := "execTicks", unfollowed := true, recurses := true, apart := false, narrowed := true }
def ExecTicksUptoSaid : Prop := execTicksUptoRow.holds Try.pinned (OpenSpec.upto execTicksSpec)

/-- 'metronomelaw21.ExecRuns', WHERE WHAT IT READS IS OF BULK AT MOST 1048576: true; the input reads as it did. -/
def execRunsUptoRow : OpenClaim := { program := "ytipfcfaigbeakaa", sum := "9a5516e496c47976be6d48f47413f41bf1b8aafe0009847c5d39d0eaa779b8b5", func := "metronome/metronomelaw21.ExecRuns", spec := "execRuns", unfollowed := true, recurses := true, apart := false, narrowed := true }
def ExecRunsUptoSaid : Prop := execRunsUptoRow.holds Try.pinned (OpenSpec.upto execRunsSpec)

/-- 'metronomelaw21.ExecBound', WHERE WHAT IT READS IS OF BULK AT MOST 1048576: true; the input reads as it did. -/
def execBoundUptoRow : OpenClaim := { program := "ytipfcfaigbeakaa", sum := "9a5516e496c47976be6d48f47413f41bf1b8aafe0009847c5d39d0eaa779b8b5", func := "metronome/metronomelaw21.ExecBound", spec := "execBound", unfollowed := true, recurses := true, apart := false, narrowed := true }
def ExecBoundUptoSaid : Prop := execBoundUptoRow.holds Try.pinned (OpenSpec.upto execBoundSpec)

end Rows
end Go.Proofs.Ytipfcfaigbeakaa

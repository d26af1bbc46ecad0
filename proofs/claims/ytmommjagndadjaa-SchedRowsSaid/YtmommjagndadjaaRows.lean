/-
  No cell of these rows narrows 'for every input' (looked for: loops, veiled, ifaces, maps, wideKeys, modest, calm, conditions, laid).
  DERIVED. THE GIVEN ROWS OF THIS SEAT. 6 by the template 'for every input the law returns true; each argument reads behind the call as it read before'; 0 by the template 'total and deterministic' (their statements: YtmommjagndadjaaTotals.lean).
  GIVEN WITH THE SEED: the statements are not yours to turn. If you find one false, say at which input.
  Laid BY PROGRAM, IN A SANDBOX (cutbox-rows.mjs): the forced cells as the released guide's own fill.sh prints them over the translation 5a6e83dcfece63dc… (all of the seat's roots in one cut). By AI agents, Wed Nov 11 2026. No macro, syntax, notation, axiom, sorry.
-/
import Derived.Test.YtmommjagndadjaaChecked
import GoSem.Claim
import GoSem.ClaimJoined
import GoSem.ClaimMapViews
import Derived.JoinedTies
import Derived.KernelRfl
namespace Go.Proofs.Ytmommjagndadjaa
/- THE CELL 'sum', in the pinned program and in every row, IS THE sha256 OF THE DUMP (.gsa) THAT YtmommjagndadjaaProg.lean LOADS. Nothing in Lean hashes anything: it is a label: what it is worth is what the hold of that sum in a sandbox is worth. -/
noncomputable def Try.pinned : Pinned := { name := "ytmommjagndadjaa", sum := "5a6e83dcfece63dcd9a1fec30da538660184e32c5f085af65b2dadfee6809560", checked := Try.checked }
namespace Rows
def none {H : Type} : Left H := { results := [], args := [] }

/-- 'metronomelaw15.SchedRows': WHATEVER THE INPUT: true; the input reads as it did. -/
def schedRowsSpec : ChangeSpec := { name := "schedRows", fn := fun _ => fun
  | [d1, d2] => { results := [.lit (.bool true)], args := [d1, d2] }
  | _ => none }
def schedRowsRow : OpenClaim := { program := "ytmommjagndadjaa", sum := "5a6e83dcfece63dcd9a1fec30da538660184e32c5f085af65b2dadfee6809560", func := "metronome/metronomelaw15.SchedRows", spec := "schedRows", unfollowed := true, recurses := true, apart := false }
def SchedRowsSaid : Prop := schedRowsRow.holds Try.pinned (OpenSpec.ofChange schedRowsSpec)

/-- ITS FALSE NEIGHBOUR: 'it returns false'. Refute it at one input. -/
def schedRowsWrong : ChangeSpec := { name := "schedRows", fn := fun _ => fun
  | [d1, d2] => { results := [.lit (.bool false)], args := [d1, d2] }
  | _ => none }
def SchedRowsWrongFalsely : Prop := schedRowsRow.holds Try.pinned (OpenSpec.ofChange schedRowsWrong)

/-- 'metronomelaw13.CoreMemories': WHATEVER THE INPUT: true; the input reads as it did. -/
def coreMemoriesSpec : ChangeSpec := { name := "coreMemories", fn := fun _ => fun
  | [d1, d2] => { results := [.lit (.bool true)], args := [d1, d2] }
  | _ => none }
def coreMemoriesRow : OpenClaim := { program := "ytmommjagndadjaa", sum := "5a6e83dcfece63dcd9a1fec30da538660184e32c5f085af65b2dadfee6809560", func := "metronome/metronomelaw13.CoreMemories", spec := "coreMemories", unfollowed := true, recurses := true, apart := false }
def CoreMemoriesSaid : Prop := coreMemoriesRow.holds Try.pinned (OpenSpec.ofChange coreMemoriesSpec)

/-- ITS FALSE NEIGHBOUR: 'it returns false'. Refute it at one input. -/
def coreMemoriesWrong : ChangeSpec := { name := "coreMemories", fn := fun _ => fun
  | [d1, d2] => { results := [.lit (.bool false)], args := [d1, d2] }
  | _ => none }
def CoreMemoriesWrongFalsely : Prop := coreMemoriesRow.holds Try.pinned (OpenSpec.ofChange coreMemoriesWrong)

/-- 'metronomelaw13.CoreTicks': WHATEVER THE INPUT: true; the input reads as it did. -/
def coreTicksSpec : ChangeSpec := { name := "coreTicks", fn := fun _ => fun
  | [d1, d2, d3] => { results := [.lit (.bool true)], args := [d1, d2, d3] }
  | _ => none }
def coreTicksRow : OpenClaim := { program := "ytmommjagndadjaa", sum := "5a6e83dcfece63dcd9a1fec30da538660184e32c5f085af65b2dadfee6809560", func := "metronome/metronomelaw13.CoreTicks", spec := "coreTicks", unfollowed := true, recurses := true, apart := false }
def CoreTicksSaid : Prop := coreTicksRow.holds Try.pinned (OpenSpec.ofChange coreTicksSpec)

/-- ITS FALSE NEIGHBOUR: 'it returns false'. Refute it at one input. -/
def coreTicksWrong : ChangeSpec := { name := "coreTicks", fn := fun _ => fun
  | [d1, d2, d3] => { results := [.lit (.bool false)], args := [d1, d2, d3] }
  | _ => none }
def CoreTicksWrongFalsely : Prop := coreTicksRow.holds Try.pinned (OpenSpec.ofChange coreTicksWrong)

/-- 'metronomelaw13.CoreWrong': WHATEVER THE INPUT: true; the input reads as it did. -/
def coreWrongSpec : ChangeSpec := { name := "coreWrong", fn := fun _ => fun
  | [d] => { results := [.lit (.bool true)], args := [d] }
  | _ => none }
def coreWrongRow : OpenClaim := { program := "ytmommjagndadjaa", sum := "5a6e83dcfece63dcd9a1fec30da538660184e32c5f085af65b2dadfee6809560", func := "metronome/metronomelaw13.CoreWrong", spec := "coreWrong", unfollowed := true, recurses := true, apart := false }
def CoreWrongSaid : Prop := coreWrongRow.holds Try.pinned (OpenSpec.ofChange coreWrongSpec)

/-- ITS FALSE NEIGHBOUR: 'it returns false'. Refute it at one input. -/
def coreWrongWrong : ChangeSpec := { name := "coreWrong", fn := fun _ => fun
  | [d] => { results := [.lit (.bool false)], args := [d] }
  | _ => none }
def CoreWrongWrongFalsely : Prop := coreWrongRow.holds Try.pinned (OpenSpec.ofChange coreWrongWrong)

/-- 'metronomelaw13.CoreResets': WHATEVER THE INPUT: true; the input reads as it did. -/
def coreResetsSpec : ChangeSpec := { name := "coreResets", fn := fun _ => fun
  | [d] => { results := [.lit (.bool true)], args := [d] }
  | _ => none }
def coreResetsRow : OpenClaim := { program := "ytmommjagndadjaa", sum := "5a6e83dcfece63dcd9a1fec30da538660184e32c5f085af65b2dadfee6809560", func := "metronome/metronomelaw13.CoreResets", spec := "coreResets", unfollowed := true, recurses := true, apart := false }
def CoreResetsSaid : Prop := coreResetsRow.holds Try.pinned (OpenSpec.ofChange coreResetsSpec)

/-- ITS FALSE NEIGHBOUR: 'it returns false'. Refute it at one input. -/
def coreResetsWrong : ChangeSpec := { name := "coreResets", fn := fun _ => fun
  | [d] => { results := [.lit (.bool false)], args := [d] }
  | _ => none }
def CoreResetsWrongFalsely : Prop := coreResetsRow.holds Try.pinned (OpenSpec.ofChange coreResetsWrong)

/-- 'metronomelaw13.CoreSlow': WHATEVER THE INPUT: true; the input reads as it did. -/
def coreSlowSpec : ChangeSpec := { name := "coreSlow", fn := fun _ => fun
  | [d] => { results := [.lit (.bool true)], args := [d] }
  | _ => none }
def coreSlowRow : OpenClaim := { program := "ytmommjagndadjaa", sum := "5a6e83dcfece63dcd9a1fec30da538660184e32c5f085af65b2dadfee6809560", func := "metronome/metronomelaw13.CoreSlow", spec := "coreSlow", unfollowed := true, recurses := true, apart := false }
def CoreSlowSaid : Prop := coreSlowRow.holds Try.pinned (OpenSpec.ofChange coreSlowSpec)

/-- ITS FALSE NEIGHBOUR: 'it returns false'. Refute it at one input. -/
def coreSlowWrong : ChangeSpec := { name := "coreSlow", fn := fun _ => fun
  | [d] => { results := [.lit (.bool false)], args := [d] }
  | _ => none }
def CoreSlowWrongFalsely : Prop := coreSlowRow.holds Try.pinned (OpenSpec.ofChange coreSlowWrong)

/- THE SECOND FORM. 'bulk': how many values and letters a reading holds, each counted each time it is reached (what is shared counts as often as it is met; a slice's spare places count too). A statement '..UptoSaid' is the law's where the arguments, and the package variables that the reading takes, are together of bulk at most 1048576: NARROWER than '..Said'. Prove '..Said' where nothing that the law and all that it calls make is longer than what came in: it says more and counts as full. Else prove '..UptoSaid'. A law counts once. -/
mutual
def uptoBulk {H : Type} : DataW H → Nat
  | .lit (.string bytes) => bytes.length + 1
  | .lit _ => 1
  | .nil => 1
  | .ptr d => uptoBulk d + 1
  | .slice elems spare => uptoBulkAll elems + uptoBulkAll spare + 1
  | .agg parts => uptoBulkAll parts + 1
  | .iface _ d => uptoBulk d + 1
  | .map entries => uptoBulkEntries entries + 1
  | .held _ => 1
def uptoBulkAll {H : Type} : List (DataW H) → Nat
  | [] => 0
  | d :: r => uptoBulk d + uptoBulkAll r
def uptoBulkEntries {H : Type} : List (Lit × DataW H) → Nat
  | [] => 0
  | x :: r => uptoBulkEntry x + uptoBulkEntries r
def uptoBulkEntry {H : Type} : Lit × DataW H → Nat
  | (.string bytes, d) => bytes.length + uptoBulk d + 1
  | (_, d) => uptoBulk d + 1
 end
def uptoSmall : (H : Type) → List (DataW H) → Bool := fun _ ds => decide (uptoBulkAll ds ≤ 1048576)
def OpenSpec.upto (s : _root_.Go.ChangeSpec) : _root_.Go.OpenSpec := { _root_.Go.OpenSpec.ofChange s with cond := some uptoSmall }

/-- 'metronomelaw15.SchedRows', WHERE WHAT IT READS IS OF BULK AT MOST 1048576: true; the input reads as it did. -/
def schedRowsUptoRow : OpenClaim := { program := "ytmommjagndadjaa", sum := "5a6e83dcfece63dcd9a1fec30da538660184e32c5f085af65b2dadfee6809560", func := "metronome/metronomelaw15.SchedRows", spec := "schedRows", unfollowed := true, recurses := true, apart := false, narrowed := true }
def SchedRowsUptoSaid : Prop := schedRowsUptoRow.holds Try.pinned (OpenSpec.upto schedRowsSpec)

/-- 'metronomelaw13.CoreMemories', WHERE WHAT IT READS IS OF BULK AT MOST 1048576: true; the input reads as it did. -/
def coreMemoriesUptoRow : OpenClaim := { program := "ytmommjagndadjaa", sum := "5a6e83dcfece63dcd9a1fec30da538660184e32c5f085af65b2dadfee6809560", func := "metronome/metronomelaw13.CoreMemories", spec := "coreMemories", unfollowed := true, recurses := true, apart := false, narrowed := true }
def CoreMemoriesUptoSaid : Prop := coreMemoriesUptoRow.holds Try.pinned (OpenSpec.upto coreMemoriesSpec)

/-- 'metronomelaw13.CoreTicks', WHERE WHAT IT READS IS OF BULK AT MOST 1048576: true; the input reads as it did. -/
def coreTicksUptoRow : OpenClaim := { program := "ytmommjagndadjaa", sum := "5a6e83dcfece63dcd9a1fec30da538660184e32c5f085af65b2dadfee6809560", func := "metronome/metronomelaw13.CoreTicks", spec := "coreTicks", unfollowed := true, recurses := true, apart := false, narrowed := true }
def CoreTicksUptoSaid : Prop := coreTicksUptoRow.holds Try.pinned (OpenSpec.upto coreTicksSpec)

/-- 'metronomelaw13.CoreWrong', WHERE WHAT IT READS IS OF BULK AT MOST 1048576: true; the input reads as it did. -/
def coreWrongUptoRow : OpenClaim := { program := "ytmommjagndadjaa", sum := "5a6e83dcfece63dcd9a1fec30da538660184e32c5f085af65b2dadfee6809560", func := "metronome/metronomelaw13.CoreWrong", spec := "coreWrong", unfollowed := true, recurses := true, apart := false, narrowed := true }
def CoreWrongUptoSaid : Prop := coreWrongUptoRow.holds Try.pinned (OpenSpec.upto coreWrongSpec)

/-- 'metronomelaw13.CoreResets', WHERE WHAT IT READS IS OF BULK AT MOST 1048576: true; the input reads as it did. -/
def coreResetsUptoRow : OpenClaim := { program := "ytmommjagndadjaa", sum := "5a6e83dcfece63dcd9a1fec30da538660184e32c5f085af65b2dadfee6809560", func := "metronome/metronomelaw13.CoreResets", spec := "coreResets", unfollowed := true, recurses := true, apart := false, narrowed := true }
def CoreResetsUptoSaid : Prop := coreResetsUptoRow.holds Try.pinned (OpenSpec.upto coreResetsSpec)

/-- 'metronomelaw13.CoreSlow', WHERE WHAT IT READS IS OF BULK AT MOST 1048576: true; the input reads as it did. -/
def coreSlowUptoRow : OpenClaim := { program := "ytmommjagndadjaa", sum := "5a6e83dcfece63dcd9a1fec30da538660184e32c5f085af65b2dadfee6809560", func := "metronome/metronomelaw13.CoreSlow", spec := "coreSlow", unfollowed := true, recurses := true, apart := false, narrowed := true }
def CoreSlowUptoSaid : Prop := coreSlowUptoRow.holds Try.pinned (OpenSpec.upto coreSlowSpec)

end Rows
end Go.Proofs.Ytmommjagndadjaa

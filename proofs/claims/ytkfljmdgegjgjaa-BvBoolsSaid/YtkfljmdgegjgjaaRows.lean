/-
  No cell of these rows narrows 'for every input' (looked for: loops, veiled, ifaces, maps, wideKeys, modest, calm, conditions, laid).
  DERIVED. THE GIVEN ROWS OF THIS SEAT. 13 by the template 'for every input the law returns true; each argument reads behind the call as it read before'; 0 by the template 'total and deterministic' (their statements: YtkfljmdgegjgjaaTotals.lean).
  GIVEN WITH THE SEED: the statements are not yours to turn. If you find one false, say at which input.
  Laid BY PROGRAM, IN A SANDBOX (cutbox-rows.mjs): the forced cells as the released guide's own fill.sh prints them over the translation 1d2c405f9a36c8f8… (all of the seat's roots in one cut). By AI agents, Wed Nov 11 2026. No macro, syntax, notation, axiom, sorry.
-/
import Derived.Test.YtkfljmdgegjgjaaChecked
import GoSem.Claim
import GoSem.ClaimJoined
import GoSem.ClaimMapViews
import Derived.JoinedTies
import Derived.KernelRfl
namespace Go.Proofs.Ytkfljmdgegjgjaa
/- THE CELL 'sum', in the pinned program and in every row, IS THE sha256 OF THE DUMP (.gsa) THAT YtkfljmdgegjgjaaProg.lean LOADS. Nothing in Lean hashes anything: it is a label: what it is worth is what the hold of that sum in a sandbox is worth. -/
noncomputable def Try.pinned : Pinned := { name := "ytkfljmdgegjgjaa", sum := "1d2c405f9a36c8f859b6ee9bd56165f02cf2d379a6547cc495eec46ecf6a4fd3", checked := Try.checked }
namespace Rows
def none {H : Type} : Left H := { results := [], args := [] }

/-- 'metronomelaw1.BvBin': WHATEVER THE INPUT: true; the input reads as it did. -/
def bvBinSpec : ChangeSpec := { name := "bvBin", fn := fun _ => fun
  | [d1, d2, d3, d4, d5] => { results := [.lit (.bool true)], args := [d1, d2, d3, d4, d5] }
  | _ => none }
def bvBinRow : OpenClaim := { program := "ytkfljmdgegjgjaa", sum := "1d2c405f9a36c8f859b6ee9bd56165f02cf2d379a6547cc495eec46ecf6a4fd3", func := "metronome/metronomelaw1.BvBin", spec := "bvBin", unfollowed := true, recurses := true, apart := false }
def BvBinSaid : Prop := bvBinRow.holds Try.pinned (OpenSpec.ofChange bvBinSpec)

/-- ITS FALSE NEIGHBOUR: 'it returns false'. Refute it at one input. -/
def bvBinWrong : ChangeSpec := { name := "bvBin", fn := fun _ => fun
  | [d1, d2, d3, d4, d5] => { results := [.lit (.bool false)], args := [d1, d2, d3, d4, d5] }
  | _ => none }
def BvBinWrongFalsely : Prop := bvBinRow.holds Try.pinned (OpenSpec.ofChange bvBinWrong)

/-- 'metronomelaw1.BvCasts': WHATEVER THE INPUT: true; the input reads as it did. -/
def bvCastsSpec : ChangeSpec := { name := "bvCasts", fn := fun _ => fun
  | [d1, d2, d3, d4] => { results := [.lit (.bool true)], args := [d1, d2, d3, d4] }
  | _ => none }
def bvCastsRow : OpenClaim := { program := "ytkfljmdgegjgjaa", sum := "1d2c405f9a36c8f859b6ee9bd56165f02cf2d379a6547cc495eec46ecf6a4fd3", func := "metronome/metronomelaw1.BvCasts", spec := "bvCasts", unfollowed := true, recurses := true, apart := false }
def BvCastsSaid : Prop := bvCastsRow.holds Try.pinned (OpenSpec.ofChange bvCastsSpec)

/-- ITS FALSE NEIGHBOUR: 'it returns false'. Refute it at one input. -/
def bvCastsWrong : ChangeSpec := { name := "bvCasts", fn := fun _ => fun
  | [d1, d2, d3, d4] => { results := [.lit (.bool false)], args := [d1, d2, d3, d4] }
  | _ => none }
def BvCastsWrongFalsely : Prop := bvCastsRow.holds Try.pinned (OpenSpec.ofChange bvCastsWrong)

/-- 'metronomelaw1.BvClosed': WHATEVER THE INPUT: true; the input reads as it did. -/
def bvClosedSpec : ChangeSpec := { name := "bvClosed", fn := fun _ => fun
  | [d1, d2, d3, d4, d5, d6] => { results := [.lit (.bool true)], args := [d1, d2, d3, d4, d5, d6] }
  | _ => none }
def bvClosedRow : OpenClaim := { program := "ytkfljmdgegjgjaa", sum := "1d2c405f9a36c8f859b6ee9bd56165f02cf2d379a6547cc495eec46ecf6a4fd3", func := "metronome/metronomelaw1.BvClosed", spec := "bvClosed", unfollowed := true, recurses := true, apart := false }
def BvClosedSaid : Prop := bvClosedRow.holds Try.pinned (OpenSpec.ofChange bvClosedSpec)

/-- ITS FALSE NEIGHBOUR: 'it returns false'. Refute it at one input. -/
def bvClosedWrong : ChangeSpec := { name := "bvClosed", fn := fun _ => fun
  | [d1, d2, d3, d4, d5, d6] => { results := [.lit (.bool false)], args := [d1, d2, d3, d4, d5, d6] }
  | _ => none }
def BvClosedWrongFalsely : Prop := bvClosedRow.holds Try.pinned (OpenSpec.ofChange bvClosedWrong)

/-- 'metronomelaw1.BvDivides': WHATEVER THE INPUT: true; the input reads as it did. -/
def bvDividesSpec : ChangeSpec := { name := "bvDivides", fn := fun _ => fun
  | [d1, d2, d3] => { results := [.lit (.bool true)], args := [d1, d2, d3] }
  | _ => none }
def bvDividesRow : OpenClaim := { program := "ytkfljmdgegjgjaa", sum := "1d2c405f9a36c8f859b6ee9bd56165f02cf2d379a6547cc495eec46ecf6a4fd3", func := "metronome/metronomelaw1.BvDivides", spec := "bvDivides", unfollowed := true, recurses := true, apart := false }
def BvDividesSaid : Prop := bvDividesRow.holds Try.pinned (OpenSpec.ofChange bvDividesSpec)

/-- ITS FALSE NEIGHBOUR: 'it returns false'. Refute it at one input. -/
def bvDividesWrong : ChangeSpec := { name := "bvDivides", fn := fun _ => fun
  | [d1, d2, d3] => { results := [.lit (.bool false)], args := [d1, d2, d3] }
  | _ => none }
def BvDividesWrongFalsely : Prop := bvDividesRow.holds Try.pinned (OpenSpec.ofChange bvDividesWrong)

/-- 'metronomelaw1.BvShifts': WHATEVER THE INPUT: true; the input reads as it did. -/
def bvShiftsSpec : ChangeSpec := { name := "bvShifts", fn := fun _ => fun
  | [d1, d2, d3] => { results := [.lit (.bool true)], args := [d1, d2, d3] }
  | _ => none }
def bvShiftsRow : OpenClaim := { program := "ytkfljmdgegjgjaa", sum := "1d2c405f9a36c8f859b6ee9bd56165f02cf2d379a6547cc495eec46ecf6a4fd3", func := "metronome/metronomelaw1.BvShifts", spec := "bvShifts", unfollowed := true, recurses := true, apart := false }
def BvShiftsSaid : Prop := bvShiftsRow.holds Try.pinned (OpenSpec.ofChange bvShiftsSpec)

/-- ITS FALSE NEIGHBOUR: 'it returns false'. Refute it at one input. -/
def bvShiftsWrong : ChangeSpec := { name := "bvShifts", fn := fun _ => fun
  | [d1, d2, d3] => { results := [.lit (.bool false)], args := [d1, d2, d3] }
  | _ => none }
def BvShiftsWrongFalsely : Prop := bvShiftsRow.holds Try.pinned (OpenSpec.ofChange bvShiftsWrong)

/-- 'metronomelaw1.BvBack': WHATEVER THE INPUT: true; the input reads as it did. -/
def bvBackSpec : ChangeSpec := { name := "bvBack", fn := fun _ => fun
  | [d1, d2, d3] => { results := [.lit (.bool true)], args := [d1, d2, d3] }
  | _ => none }
def bvBackRow : OpenClaim := { program := "ytkfljmdgegjgjaa", sum := "1d2c405f9a36c8f859b6ee9bd56165f02cf2d379a6547cc495eec46ecf6a4fd3", func := "metronome/metronomelaw1.BvBack", spec := "bvBack", unfollowed := true, recurses := true, apart := false }
def BvBackSaid : Prop := bvBackRow.holds Try.pinned (OpenSpec.ofChange bvBackSpec)

/-- ITS FALSE NEIGHBOUR: 'it returns false'. Refute it at one input. -/
def bvBackWrong : ChangeSpec := { name := "bvBack", fn := fun _ => fun
  | [d1, d2, d3] => { results := [.lit (.bool false)], args := [d1, d2, d3] }
  | _ => none }
def BvBackWrongFalsely : Prop := bvBackRow.holds Try.pinned (OpenSpec.ofChange bvBackWrong)

/-- 'metronomelaw1.BvOrders': WHATEVER THE INPUT: true; the input reads as it did. -/
def bvOrdersSpec : ChangeSpec := { name := "bvOrders", fn := fun _ => fun
  | [d1, d2, d3, d4] => { results := [.lit (.bool true)], args := [d1, d2, d3, d4] }
  | _ => none }
def bvOrdersRow : OpenClaim := { program := "ytkfljmdgegjgjaa", sum := "1d2c405f9a36c8f859b6ee9bd56165f02cf2d379a6547cc495eec46ecf6a4fd3", func := "metronome/metronomelaw1.BvOrders", spec := "bvOrders", unfollowed := true, recurses := true, apart := false }
def BvOrdersSaid : Prop := bvOrdersRow.holds Try.pinned (OpenSpec.ofChange bvOrdersSpec)

/-- ITS FALSE NEIGHBOUR: 'it returns false'. Refute it at one input. -/
def bvOrdersWrong : ChangeSpec := { name := "bvOrders", fn := fun _ => fun
  | [d1, d2, d3, d4] => { results := [.lit (.bool false)], args := [d1, d2, d3, d4] }
  | _ => none }
def BvOrdersWrongFalsely : Prop := bvOrdersRow.holds Try.pinned (OpenSpec.ofChange bvOrdersWrong)

/-- 'metronomelaw1.BvBools': WHATEVER THE INPUT: true; the input reads as it did. -/
def bvBoolsSpec : ChangeSpec := { name := "bvBools", fn := fun _ => fun
  | [d] => { results := [.lit (.bool true)], args := [d] }
  | _ => none }
def bvBoolsRow : OpenClaim := { program := "ytkfljmdgegjgjaa", sum := "1d2c405f9a36c8f859b6ee9bd56165f02cf2d379a6547cc495eec46ecf6a4fd3", func := "metronome/metronomelaw1.BvBools", spec := "bvBools", unfollowed := true, recurses := true, apart := false }
def BvBoolsSaid : Prop := bvBoolsRow.holds Try.pinned (OpenSpec.ofChange bvBoolsSpec)

/-- ITS FALSE NEIGHBOUR: 'it returns false'. Refute it at one input. -/
def bvBoolsWrong : ChangeSpec := { name := "bvBools", fn := fun _ => fun
  | [d] => { results := [.lit (.bool false)], args := [d] }
  | _ => none }
def BvBoolsWrongFalsely : Prop := bvBoolsRow.holds Try.pinned (OpenSpec.ofChange bvBoolsWrong)

/-- 'metronomelaw1.BvWraps': WHATEVER THE INPUT: true; the input reads as it did. -/
def bvWrapsSpec : ChangeSpec := { name := "bvWraps", fn := fun _ => fun
  | [d1, d2] => { results := [.lit (.bool true)], args := [d1, d2] }
  | _ => none }
def bvWrapsRow : OpenClaim := { program := "ytkfljmdgegjgjaa", sum := "1d2c405f9a36c8f859b6ee9bd56165f02cf2d379a6547cc495eec46ecf6a4fd3", func := "metronome/metronomelaw1.BvWraps", spec := "bvWraps", unfollowed := true, recurses := true, apart := false }
def BvWrapsSaid : Prop := bvWrapsRow.holds Try.pinned (OpenSpec.ofChange bvWrapsSpec)

/-- ITS FALSE NEIGHBOUR: 'it returns false'. Refute it at one input. -/
def bvWrapsWrong : ChangeSpec := { name := "bvWraps", fn := fun _ => fun
  | [d1, d2] => { results := [.lit (.bool false)], args := [d1, d2] }
  | _ => none }
def BvWrapsWrongFalsely : Prop := bvWrapsRow.holds Try.pinned (OpenSpec.ofChange bvWrapsWrong)

/-- 'metronomelaw1.BvUn': WHATEVER THE INPUT: true; the input reads as it did. -/
def bvUnSpec : ChangeSpec := { name := "bvUn", fn := fun _ => fun
  | [d1, d2, d3, d4] => { results := [.lit (.bool true)], args := [d1, d2, d3, d4] }
  | _ => none }
def bvUnRow : OpenClaim := { program := "ytkfljmdgegjgjaa", sum := "1d2c405f9a36c8f859b6ee9bd56165f02cf2d379a6547cc495eec46ecf6a4fd3", func := "metronome/metronomelaw1.BvUn", spec := "bvUn", unfollowed := true, recurses := true, apart := false }
def BvUnSaid : Prop := bvUnRow.holds Try.pinned (OpenSpec.ofChange bvUnSpec)

/-- ITS FALSE NEIGHBOUR: 'it returns false'. Refute it at one input. -/
def bvUnWrong : ChangeSpec := { name := "bvUn", fn := fun _ => fun
  | [d1, d2, d3, d4] => { results := [.lit (.bool false)], args := [d1, d2, d3, d4] }
  | _ => none }
def BvUnWrongFalsely : Prop := bvUnRow.holds Try.pinned (OpenSpec.ofChange bvUnWrong)

/-- 'metronomelaw1.BvRings': WHATEVER THE INPUT: true; the input reads as it did. -/
def bvRingsSpec : ChangeSpec := { name := "bvRings", fn := fun _ => fun
  | [d1, d2, d3, d4] => { results := [.lit (.bool true)], args := [d1, d2, d3, d4] }
  | _ => none }
def bvRingsRow : OpenClaim := { program := "ytkfljmdgegjgjaa", sum := "1d2c405f9a36c8f859b6ee9bd56165f02cf2d379a6547cc495eec46ecf6a4fd3", func := "metronome/metronomelaw1.BvRings", spec := "bvRings", unfollowed := true, recurses := true, apart := false }
def BvRingsSaid : Prop := bvRingsRow.holds Try.pinned (OpenSpec.ofChange bvRingsSpec)

/-- ITS FALSE NEIGHBOUR: 'it returns false'. Refute it at one input. -/
def bvRingsWrong : ChangeSpec := { name := "bvRings", fn := fun _ => fun
  | [d1, d2, d3, d4] => { results := [.lit (.bool false)], args := [d1, d2, d3, d4] }
  | _ => none }
def BvRingsWrongFalsely : Prop := bvRingsRow.holds Try.pinned (OpenSpec.ofChange bvRingsWrong)

/-- 'metronomelaw1.BvMorgan': WHATEVER THE INPUT: true; the input reads as it did. -/
def bvMorganSpec : ChangeSpec := { name := "bvMorgan", fn := fun _ => fun
  | [d1, d2, d3, d4] => { results := [.lit (.bool true)], args := [d1, d2, d3, d4] }
  | _ => none }
def bvMorganRow : OpenClaim := { program := "ytkfljmdgegjgjaa", sum := "1d2c405f9a36c8f859b6ee9bd56165f02cf2d379a6547cc495eec46ecf6a4fd3", func := "metronome/metronomelaw1.BvMorgan", spec := "bvMorgan", unfollowed := true, recurses := true, apart := false }
def BvMorganSaid : Prop := bvMorganRow.holds Try.pinned (OpenSpec.ofChange bvMorganSpec)

/-- ITS FALSE NEIGHBOUR: 'it returns false'. Refute it at one input. -/
def bvMorganWrong : ChangeSpec := { name := "bvMorgan", fn := fun _ => fun
  | [d1, d2, d3, d4] => { results := [.lit (.bool false)], args := [d1, d2, d3, d4] }
  | _ => none }
def BvMorganWrongFalsely : Prop := bvMorganRow.holds Try.pinned (OpenSpec.ofChange bvMorganWrong)

/-- 'metronomelaw1.BvSigns': WHATEVER THE INPUT: true; the input reads as it did. -/
def bvSignsSpec : ChangeSpec := { name := "bvSigns", fn := fun _ => fun
  | [d1, d2] => { results := [.lit (.bool true)], args := [d1, d2] }
  | _ => none }
def bvSignsRow : OpenClaim := { program := "ytkfljmdgegjgjaa", sum := "1d2c405f9a36c8f859b6ee9bd56165f02cf2d379a6547cc495eec46ecf6a4fd3", func := "metronome/metronomelaw1.BvSigns", spec := "bvSigns", unfollowed := true, recurses := true, apart := false }
def BvSignsSaid : Prop := bvSignsRow.holds Try.pinned (OpenSpec.ofChange bvSignsSpec)

/-- ITS FALSE NEIGHBOUR: 'it returns false'. Refute it at one input. -/
def bvSignsWrong : ChangeSpec := { name := "bvSigns", fn := fun _ => fun
  | [d1, d2] => { results := [.lit (.bool false)], args := [d1, d2] }
  | _ => none }
def BvSignsWrongFalsely : Prop := bvSignsRow.holds Try.pinned (OpenSpec.ofChange bvSignsWrong)

/- THE SECOND FORM. 'bulk': how many values and letters a reading holds, each counted each time it is reached (what is shared counts as often as it is met; a slice's spare places count too). A statement '..UptoSaid' is the law's where the arguments, and the package variables that the reading takes, are together of bulk at most 1048576: NARROWER than '..Said'. Prove '..Said' where nothing that the law and all that it calls make is longer than what came in: it says more and counts as full. Else prove '..UptoSaid'. A law counts once. -/
mutual
def uptoBulk {H : Type} : DataW H → Nat
  | .lit (.string bytes) => bytes.length + 1
  | .lit _ => 1
  | .nil => 1
  | .ptr d => uptoBulk d + 1
  | .slice elems spare => uptoBulkAll elems + uptoBulkAll spare + 1
  | .agg parts => uptoBulkAll parts + 1
  | .iface _ d => uptoBulk d + 1
  | .map entries => uptoBulkEntries entries + 1
  | .held _ => 1
def uptoBulkAll {H : Type} : List (DataW H) → Nat
  | [] => 0
  | d :: r => uptoBulk d + uptoBulkAll r
def uptoBulkEntries {H : Type} : List (Lit × DataW H) → Nat
  | [] => 0
  | x :: r => uptoBulkEntry x + uptoBulkEntries r
def uptoBulkEntry {H : Type} : Lit × DataW H → Nat
  | (.string bytes, d) => bytes.length + uptoBulk d + 1
  | (_, d) => uptoBulk d + 1
 end
def uptoSmall : (H : Type) → List (DataW H) → Bool := fun _ ds => decide (uptoBulkAll ds ≤ 1048576)
def OpenSpec.upto (s : _root_.Go.ChangeSpec) : _root_.Go.OpenSpec := { _root_.Go.OpenSpec.ofChange s with cond := some uptoSmall }

/-- 'metronomelaw1.BvBin', WHERE WHAT IT READS IS OF BULK AT MOST 1048576: true; the input reads as it did. -/
def bvBinUptoRow : OpenClaim := { program := "ytkfljmdgegjgjaa", sum := "1d2c405f9a36c8f859b6ee9bd56165f02cf2d379a6547cc495eec46ecf6a4fd3", func := "metronome/metronomelaw1.BvBin", spec := "bvBin", unfollowed := true, recurses := true, apart := false, narrowed := true }
def BvBinUptoSaid : Prop := bvBinUptoRow.holds Try.pinned (OpenSpec.upto bvBinSpec)

/-- 'metronomelaw1.BvCasts', WHERE WHAT IT READS IS OF BULK AT MOST 1048576: true; the input reads as it did. -/
def bvCastsUptoRow : OpenClaim := { program := "ytkfljmdgegjgjaa", sum := "1d2c405f9a36c8f859b6ee9bd56165f02cf2d379a6547cc495eec46ecf6a4fd3", func := "metronome/metronomelaw1.BvCasts", spec := "bvCasts", unfollowed := true, recurses := true, apart := false, narrowed := true }
def BvCastsUptoSaid : Prop := bvCastsUptoRow.holds Try.pinned (OpenSpec.upto bvCastsSpec)

/-- 'metronomelaw1.BvClosed', WHERE WHAT IT READS IS OF BULK AT MOST 1048576: true; the input reads as it did. -/
def bvClosedUptoRow : OpenClaim := { program := "ytkfljmdgegjgjaa", sum := "1d2c405f9a36c8f859b6ee9bd56165f02cf2d379a6547cc495eec46ecf6a4fd3", func := "metronome/metronomelaw1.BvClosed", spec := "bvClosed", unfollowed := true, recurses := true, apart := false, narrowed := true }
def BvClosedUptoSaid : Prop := bvClosedUptoRow.holds Try.pinned (OpenSpec.upto bvClosedSpec)

/-- 'metronomelaw1.BvDivides', WHERE WHAT IT READS IS OF BULK AT MOST 1048576: true; the input reads as it did. -/
def bvDividesUptoRow : OpenClaim := { program := "ytkfljmdgegjgjaa", sum := "1d2c405f9a36c8f859b6ee9bd56165f02cf2d379a6547cc495eec46ecf6a4fd3", func := "metronome/metronomelaw1.BvDivides", spec := "bvDivides", unfollowed := true, recurses := true, apart := false, narrowed := true }
def BvDividesUptoSaid : Prop := bvDividesUptoRow.holds Try.pinned (OpenSpec.upto bvDividesSpec)

/-- 'metronomelaw1.BvShifts', WHERE WHAT IT READS IS OF BULK AT MOST 1048576: true; the input reads as it did. -/
def bvShiftsUptoRow : OpenClaim := { program := "ytkfljmdgegjgjaa", sum := "1d2c405f9a36c8f859b6ee9bd56165f02cf2d379a6547cc495eec46ecf6a4fd3", func := "metronome/metronomelaw1.BvShifts", spec := "bvShifts", unfollowed := true, recurses := true, apart := false, narrowed := true }
def BvShiftsUptoSaid : Prop := bvShiftsUptoRow.holds Try.pinned (OpenSpec.upto bvShiftsSpec)

/-- 'metronomelaw1.BvBack', WHERE WHAT IT READS IS OF BULK AT MOST 1048576: true; the input reads as it did. -/
def bvBackUptoRow : OpenClaim := { program := "ytkfljmdgegjgjaa", sum := "1d2c405f9a36c8f859b6ee9bd56165f02cf2d379a6547cc495eec46ecf6a4fd3", func := "metronome/metronomelaw1.BvBack", spec := "bvBack", unfollowed := true, recurses := true, apart := false, narrowed := true }
def BvBackUptoSaid : Prop := bvBackUptoRow.holds Try.pinned (OpenSpec.upto bvBackSpec)

/-- 'metronomelaw1.BvOrders', WHERE WHAT IT READS IS OF BULK AT MOST 1048576: true; the input reads as it did. -/
def bvOrdersUptoRow : OpenClaim := { program := "ytkfljmdgegjgjaa", sum := "1d2c405f9a36c8f859b6ee9bd56165f02cf2d379a6547cc495eec46ecf6a4fd3", func := "metronome/metronomelaw1.BvOrders", spec := "bvOrders", unfollowed := true, recurses := true, apart := false, narrowed := true }
def BvOrdersUptoSaid : Prop := bvOrdersUptoRow.holds Try.pinned (OpenSpec.upto bvOrdersSpec)

/-- 'metronomelaw1.BvBools', WHERE WHAT IT READS IS OF BULK AT MOST 1048576: true; the input reads as it did. -/
def bvBoolsUptoRow : OpenClaim := { program := "ytkfljmdgegjgjaa", sum := "1d2c405f9a36c8f859b6ee9bd56165f02cf2d379a6547cc495eec46ecf6a4fd3", func := "metronome/metronomelaw1.BvBools", spec := "bvBools", unfollowed := true, recurses := true, apart := false, narrowed := true }
def BvBoolsUptoSaid : Prop := bvBoolsUptoRow.holds Try.pinned (OpenSpec.upto bvBoolsSpec)

/-- 'metronomelaw1.BvWraps', WHERE WHAT IT READS IS OF BULK AT MOST 1048576: true; the input reads as it did. -/
def bvWrapsUptoRow : OpenClaim := { program := "ytkfljmdgegjgjaa", sum := "1d2c405f9a36c8f859b6ee9bd56165f02cf2d379a6547cc495eec46ecf6a4fd3", func := "metronome/metronomelaw1.BvWraps", spec := "bvWraps", unfollowed := true, recurses := true, apart := false, narrowed := true }
def BvWrapsUptoSaid : Prop := bvWrapsUptoRow.holds Try.pinned (OpenSpec.upto bvWrapsSpec)

/-- 'metronomelaw1.BvUn', WHERE WHAT IT READS IS OF BULK AT MOST 1048576: true; the input reads as it did. -/
def bvUnUptoRow : OpenClaim := { program := "ytkfljmdgegjgjaa", sum := "1d2c405f9a36c8f859b6ee9bd56165f02cf2d379a6547cc495eec46ecf6a4fd3", func := "metronome/metronomelaw1.BvUn", spec := "bvUn", unfollowed := true, recurses := true, apart := false, narrowed := true }
def BvUnUptoSaid : Prop := bvUnUptoRow.holds Try.pinned (OpenSpec.upto bvUnSpec)

/-- 'metronomelaw1.BvRings', WHERE WHAT IT READS IS OF BULK AT MOST 1048576: true; the input reads as it did. -/
def bvRingsUptoRow : OpenClaim := { program := "ytkfljmdgegjgjaa", sum := "1d2c405f9a36c8f859b6ee9bd56165f02cf2d379a6547cc495eec46ecf6a4fd3", func := "metronome/metronomelaw1.BvRings", spec := "bvRings", unfollowed := true, recurses := true, apart := false, narrowed := true }
def BvRingsUptoSaid : Prop := bvRingsUptoRow.holds Try.pinned (OpenSpec.upto bvRingsSpec)

/-- 'metronomelaw1.BvMorgan', WHERE WHAT IT READS IS OF BULK AT MOST 1048576: true; the input reads as it did. -/
def bvMorganUptoRow : OpenClaim := { program := "ytkfljmdgegjgjaa", sum := "1d2c405f9a36c8f859b6ee9bd56165f02cf2d379a6547cc495eec46ecf6a4fd3", func := "metronome/metronomelaw1.BvMorgan", spec := "bvMorgan", unfollowed := true, recurses := true, apart := false, narrowed := true }
def BvMorganUptoSaid : Prop := bvMorganUptoRow.holds Try.pinned (OpenSpec.upto bvMorganSpec)

/-- 'metronomelaw1.BvSigns', WHERE WHAT IT READS IS OF BULK AT MOST 1048576: true; the input reads as it did. -/
def bvSignsUptoRow : OpenClaim := { program := "ytkfljmdgegjgjaa", sum := "1d2c405f9a36c8f859b6ee9bd56165f02cf2d379a6547cc495eec46ecf6a4fd3", func := "metronome/metronomelaw1.BvSigns", spec := "bvSigns", unfollowed := true, recurses := true, apart := false, narrowed := true }
def BvSignsUptoSaid : Prop := bvSignsUptoRow.holds Try.pinned (OpenSpec.upto bvSignsSpec)

end Rows
end Go.Proofs.Ytkfljmdgegjgjaa

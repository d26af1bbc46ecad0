/-
  The law on rows of equations: what it computes is true.
  No condition.
-/
import Derived.Test.YtmommjagndadjaaJcV
import Derived.Test.YtmommjagndadjaaJcPar
import Derived.Test.YtmommjagndadjaaJcPaf
import Derived.Test.YtmommjagndadjaaJcPbr
import Derived.Test.YtmommjagndadjaaJcPbf
import Derived.Test.YtmommjagndadjaaJcPcr
import Derived.Test.YtmommjagndadjaaJcPcf
import Derived.Test.YtmommjagndadjaaJcPdr
import Derived.Test.YtmommjagndadjaaJcPdf
import Derived.Test.YtmommjagndadjaaJcPer
import Derived.Test.YtmommjagndadjaaJcPef
import Derived.Test.YtmommjagndadjaaJcPfr
import Derived.Test.YtmommjagndadjaaJcPff
import Derived.Test.YtmommjagndadjaaJcPgr
import Derived.Test.YtmommjagndadjaaJcPgf
import Derived.Test.YtmommjagndadjaaJcPhr
import Derived.Test.YtmommjagndadjaaJcPhf
import Derived.Test.YtmommjagndadjaaJcPir
import Derived.Test.YtmommjagndadjaaJcPif
namespace Go.Proofs.Ytmommjagndadjaa.Sc
open Go.RowKit Go.Maps Go.Proofs.Ytmommjagndadjaa
set_option linter.unusedSimpArgs false
set_option linter.unusedVariables false
set_option maxRecDepth 100000

theorem rows_all (n : Nat) (hn : n < 100) : rowOk n = true ∧ flatOk n = true := by
  by_cases h : n < 50
  · have h1 := rows_a ⟨n, h⟩
    have h2 := flat_a ⟨n, h⟩
    dsimp only at h1 h2
    rw [Nat.zero_add] at h1 h2
    exact ⟨h1, h2⟩
  by_cases h : n < 60
  · have h1 := rows_b ⟨n - 50, by omega⟩
    have h2 := flat_b ⟨n - 50, by omega⟩
    dsimp only at h1 h2
    rw [show 50 + (n - 50) = n by omega] at h1 h2
    exact ⟨h1, h2⟩
  by_cases h : n < 68
  · have h1 := rows_c ⟨n - 60, by omega⟩
    have h2 := flat_c ⟨n - 60, by omega⟩
    dsimp only at h1 h2
    rw [show 60 + (n - 60) = n by omega] at h1 h2
    exact ⟨h1, h2⟩
  by_cases h : n < 75
  · have h1 := rows_d ⟨n - 68, by omega⟩
    have h2 := flat_d ⟨n - 68, by omega⟩
    dsimp only at h1 h2
    rw [show 68 + (n - 68) = n by omega] at h1 h2
    exact ⟨h1, h2⟩
  by_cases h : n < 81
  · have h1 := rows_e ⟨n - 75, by omega⟩
    have h2 := flat_e ⟨n - 75, by omega⟩
    dsimp only at h1 h2
    rw [show 75 + (n - 75) = n by omega] at h1 h2
    exact ⟨h1, h2⟩
  by_cases h : n < 86
  · have h1 := rows_f ⟨n - 81, by omega⟩
    have h2 := flat_f ⟨n - 81, by omega⟩
    dsimp only at h1 h2
    rw [show 81 + (n - 81) = n by omega] at h1 h2
    exact ⟨h1, h2⟩
  by_cases h : n < 91
  · have h1 := rows_g ⟨n - 86, by omega⟩
    have h2 := flat_g ⟨n - 86, by omega⟩
    dsimp only at h1 h2
    rw [show 86 + (n - 86) = n by omega] at h1 h2
    exact ⟨h1, h2⟩
  by_cases h : n < 96
  · have h1 := rows_h ⟨n - 91, by omega⟩
    have h2 := flat_h ⟨n - 91, by omega⟩
    dsimp only at h1 h2
    rw [show 91 + (n - 91) = n by omega] at h1 h2
    exact ⟨h1, h2⟩
  have h1 := rows_i ⟨n - 96, by omega⟩
  have h2 := flat_i ⟨n - 96, by omega⟩
  dsimp only at h1 h2
  rw [show 96 + (n - 96) = n by omega] at h1 h2
  exact ⟨h1, h2⟩
theorem schedRows_any (n : Int) (row : Bool) (w : World) : Calls Try.prog 3 #[.int .i64 n, .bool row] w fun e w' => e = .returned (.bool true) ∧ Hid (Ext w w') :=
  schedRows_of (fun n _ h => rows_all n h) n row w
end Go.Proofs.Ytmommjagndadjaa.Sc

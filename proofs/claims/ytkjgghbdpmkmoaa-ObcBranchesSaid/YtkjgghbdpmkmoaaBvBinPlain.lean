/-
  Which operations on two values there are, and what they give.
  No condition.
-/
import Derived.Test.YtkjgghbdpmkmoaaBvPlain
namespace Go.Proofs.Ytkjgghbdpmkmoaa
open Go.RowKit
set_option linter.unusedSimpArgs false
set_option linter.unusedVariables false
set_option maxRecDepth 100000
def fitsv (o k : Int) : Bool := if k = 1 then (bits .and .i64 o 1 != 0) else (bits .and .i64 o 2 != 0)
def unv (op k a : Int) : Int × Bool :=
  if isk k a = false then (0, false) else if op = 1 then (if k = 1 then (wrap64 (1 - a), true) else (wkr k (bits .xor .i64 (-1) a), true))
  else if op = 2 then (if k = 1 then (0, false) else (wkr k (wrap64 (-a)), true)) else (0, false)
def castv (f t a : Int) : Int × Bool := if isk f a = false ∨ width t = 0 then (0, false) else if t = 1 then (tru (a != 0), true) else (wkr t a, true)
def opOf (n : Nat) : Int := match n with | 3 => 2 | 4 => 2 | 5 => 2 | 6 => 2 | 7 => 2 | 8 => 3 | 9 => 3 | 10 => 3 | 11 => 1 | 12 => 2 | 13 => 2 | 14 => 3 | 15 => 3 | 16 => 2 | 17 => 2 | 18 => 2 | 19 => 2 | _ => 0
def binr (n : Nat) (k a b : Int) : Int × Int := match n with | 3 => (wkr k (wrap64 (a + b)), k) | 4 => (wkr k (wrap64 (a - b)), k) | 5 => (wkr k (wrap64 (a * b)), k) | 6 => (wkr k (divv k a b), k) | 7 => (wkr k (modv k a b), k) | 8 => (wkr k (bits .and .i64 a b), k) | 9 => (wkr k (bits .or .i64 a b), k) | 10 => (wkr k (bits .xor .i64 a b), k) | 11 => (tru (a == 0 || b != 0), 1) | 12 => (wkr k (shlv k a k b), k) | 13 => (wkr k (shrv k a k b), k) | 14 => (tru (a == b), 1) | 15 => (tru (a != b), 1) | 16 => (tru (blw k a b), 1) | 17 => (tru (!(blw k b a)), 1) | 18 => (tru (blw k b a), 1) | 19 => (tru (!(blw k a b)), 1) | _ => (0, 0)
def binOk (op k a b : Int) : Bool := isk k a && isk k b && decide (0 ≤ op) && fitsv (opOf op.toNat) k
def binv (op k a b : Int) : Int × Int × Bool := if binOk op k a b then ((binr op.toNat k a b).1, (binr op.toNat k a b).2, true) else (0, 0, false)
theorem fits0 (k : Int) : fitsv 0 k = false := by unfold fitsv; split <;> decide
theorem opOf_big (n : Nat) (h : 20 ≤ n) : opOf n = 0 := by
  unfold opOf; split <;> first | omega | rfl

end Go.Proofs.Ytkjgghbdpmkmoaa

/-
  What the plain rules say of the document's example with one thing wrong.
  No condition.
-/
import Derived.Test.YtipfcfaigbeakaaJPlain
namespace Go.Proofs.Ytipfcfaigbeakaa

abbrev smallBody : List InsV := [⟨2, 0, 0⟩, ⟨1, 1, 2⟩, ⟨5, 3, 2⟩, ⟨3, 1, 0⟩, ⟨9, 0, 0⟩]
abbrev likeV (kinds : List Int) (ins outs : Int) (init : List Int) (stack : Int) (body : List InsV) : CodeV := { kinds := kinds, ins := ins, outs := outs, cells := 0, init := init, stack := stack, body := body }
def wrongV : Nat → CodeV
  | 1 => likeV [2, 2] (-1) 1 [] 2 smallBody
  | 2 => likeV [2, 2] 1 3 [] 2 smallBody
  | 3 => likeV [0, 2] 1 1 [] 2 smallBody
  | 4 => likeV [2, 2] 1 1 [1] 2 smallBody
  | 5 => likeV [2, 2] 1 1 [] 2 []
  | 6 => likeV [2, 2] 1 1 [] 2 [⟨2, 0, 0⟩, ⟨1, 1, 2⟩, ⟨5, 3, 2⟩, ⟨3, 1, 0⟩]
  | 7 => likeV [2, 2] 1 1 [] 2 [⟨2, 0, 0⟩, ⟨10, 1, 2⟩, ⟨5, 3, 2⟩, ⟨3, 1, 0⟩, ⟨9, 0, 0⟩]
  | 8 => likeV [2, 2] 1 1 [] 2 [⟨2, 0, 0⟩, ⟨1, 200, 2⟩, ⟨5, 3, 2⟩, ⟨3, 1, 0⟩, ⟨9, 0, 0⟩]
  | 9 => likeV [2, 2] 1 1 [] 2 [⟨2, 2, 0⟩, ⟨1, 1, 2⟩, ⟨5, 3, 2⟩, ⟨3, 1, 0⟩, ⟨9, 0, 0⟩]
  | 10 => likeV [2, 2] 1 1 [] 2 [⟨2, 0, 0⟩, ⟨1, 1, 2⟩, ⟨5, 3, 2⟩, ⟨3, 0, 0⟩, ⟨9, 0, 0⟩]
  | 11 => likeV [2, 2] 1 1 [] 2 [⟨2, 0, 0⟩, ⟨1, 1, 2⟩, ⟨5, 3, 6⟩, ⟨3, 1, 0⟩, ⟨9, 0, 0⟩]
  | 12 => likeV [2, 2] 1 1 [] 2 [⟨2, 0, 0⟩, ⟨1, 1, 2⟩, ⟨5, 11, 2⟩, ⟨3, 1, 0⟩, ⟨9, 0, 0⟩]
  | 13 => likeV [2, 2] 1 1 [] 2 [⟨2, 0, 1⟩, ⟨1, 1, 2⟩, ⟨5, 3, 2⟩, ⟨3, 1, 0⟩, ⟨9, 0, 0⟩]
  | 14 => likeV [2, 2] 1 1 [] 2 [⟨2, 0, 0⟩, ⟨1, 1, 2⟩, ⟨5, 3, 2⟩, ⟨3, 1, 0⟩, ⟨9, 1, 0⟩]
  | 15 => likeV [2, 2] 1 1 [] 2 [⟨2, 0, 0⟩, ⟨1, 1, 2⟩, ⟨5, 3, 2⟩, ⟨9, 0, 0⟩]
  | 16 => likeV [2, 2] 1 1 [] 2 [⟨2, 0, 0⟩, ⟨1, 1, 2⟩, ⟨5, 3, 2⟩, ⟨8, 0, 0⟩, ⟨9, 0, 0⟩]
  | 17 => likeV [2, 2] 1 1 [] 2 [⟨2, 0, 0⟩, ⟨3, 1, 0⟩, ⟨5, 3, 2⟩, ⟨3, 1, 0⟩, ⟨9, 0, 0⟩]
  | 18 => likeV [2, 2] 1 1 [] 2 (⟨7, 1, 0⟩ :: ⟨5, 99, 99⟩ :: smallBody)
  | 19 => likeV [2, 2] 1 1 [] 65 smallBody
  | 20 => likeV [2, 2] 1 1 [] (-1) smallBody
  | 21 => likeV [2, 2] 1 1 [] 2 [⟨2, 0, 0⟩, ⟨1, 1, 2⟩, ⟨6, 6, 2⟩, ⟨3, 1, 0⟩, ⟨9, 0, 0⟩]
  | _ => likeV [2, 2] 1 1 [] 2 smallBody
def wantV : List Int := [0, 40, 40, 40, 40, 40, 40, 40, 50, 50, 50, 50, 50, 50, 50, 50, 50, 50, 0, 2, 40, 50]
theorem chk_wrong : ∀ k : Fin 22, chk (wrongV k.val) = wantV.getD k.val 0 := by decide +kernel
end Go.Proofs.Ytipfcfaigbeakaa

/-
  What the plain rules say of the programs that the laws build: a row of values on the stack, a row of jumps.
  No condition.
-/
import Derived.Test.YtipfcfaigbeakaaJPlain
namespace Go.Proofs.Ytipfcfaigbeakaa

/-- A straight row of instructions. -/
def lineV (c : CodeV) : List InsV → List Int → Option (List Int)
  | [], l => some l
  | q :: qs, l => (stepV c q l).bind fun m => if (m.length : Int) ≤ c.stack then lineV c qs m else none
theorem line_run (c : CodeV) : ∀ (qs : List InsV) (i : Nat) (st : Known) (l : List Int), st i = some l → (∀ j, i < j → st j = none) → (∀ q ∈ qs, q.op ≠ 7 ∧ q.op ≠ 8 ∧ q.op ≠ 9) → ∀ (e : InsV), e.op = 9 →
    (runV c (qs ++ [e]) i st).isNone = (lineV c (qs ++ [e]) l).isNone
  | [], i, st, l, h1, h2, h3, e, he => by
    have hw : waysV e i c.body.length = some [] := by unfold waysV; rw [if_neg (by omega), if_neg (by omega), if_pos he]
    simp only [List.nil_append, runV, lineV, advV, h1]
    cases hs : stepV c e l with
    | none => rfl
    | some m => by_cases hm : (m.length : Int) ≤ c.stack <;> simp [hm, hw, putsV]
  | q :: qs, i, st, l, h1, h2, h3, e, he => by
    have hq := h3 q (by simp)
    have hw : waysV q i c.body.length = some [i + 1] := by unfold waysV; rw [if_neg hq.1, if_neg hq.2.1, if_neg hq.2.2]
    simp only [List.cons_append, runV, lineV, advV, h1]
    cases hs : stepV c q l with
    | none => rfl
    | some m =>
      by_cases hm : (m.length : Int) ≤ c.stack
      · have hp : putV st (i + 1) m = some (fun j => if j = i + 1 then some m else st j) := by unfold putV; rw [h2 (i + 1) (by omega)]
        simp only [hm, if_true, hw, Option.bind_some, putsV, hp]
        exact line_run c qs (i + 1) _ m (by simp) (fun j hj => by rw [if_neg (by omega)]; exact h2 j (by omega)) (fun q' h' => h3 q' (by simp [h'])) e he
      · simp [hm]
theorem start0 : start 0 = some [] := rfl
theorem start_above : ∀ j, 0 < j → start j = none := fun j hj => by unfold start; rw [if_neg (by omega)]

/-- n values on the stack, and their sum. -/
def stackBody (n : Nat) : List InsV := (List.range n).map (fun i => ⟨1, ((i % 100 : Nat) : Int), 2⟩) ++ List.replicate (n - 1) ⟨5, 3, 2⟩ ++ [⟨3, 0, 0⟩, ⟨9, 0, 0⟩]
abbrev stackV (n : Nat) (s : Int) : CodeV := { kinds := [2], ins := 0, outs := 1, cells := 0, init := [], stack := s, body := stackBody n }
theorem isk_low {i : Nat} : isk 2 ((i % 100 : Nat) : Int) = true := by
  have : ∀ j : Fin 100, isk 2 ((j.val : Nat) : Int) = true := by decide +kernel
  exact this ⟨i % 100, Nat.mod_lt _ (by decide)⟩
theorem step_push (c : CodeV) (i : Nat) (l : List Int) : stepV c ⟨1, ((i % 100 : Nat) : Int), 2⟩ l = some (l ++ [2]) := by
  unfold stepV; rw [if_pos rfl, if_pos isk_low]
theorem pop_rep (k : Nat) : popV (List.replicate (k + 1) 2) 2 = some (List.replicate k 2) := by
  unfold popV
  rw [List.replicate_succ', List.getLast?_concat, if_pos rfl, List.dropLast_concat]
theorem bkind_add : bkind 3 2 = some 2 := by decide +kernel
theorem step_add (c : CodeV) (k : Nat) : stepV c ⟨5, 3, 2⟩ (List.replicate (k + 2) 2) = some (List.replicate (k + 1) 2) := by
  unfold stepV
  rw [if_neg (by decide), if_neg (by decide), if_neg (by decide), if_neg (by decide), if_pos rfl, pop_rep, Option.bind_some, pop_rep, Option.bind_some, bkind_add, Option.map_some, List.replicate_succ']
theorem line_push (c : CodeV) (qs : List InsV) : ∀ (k i : Nat), lineV c ((List.range' i k).map (fun i => ⟨1, ((i % 100 : Nat) : Int), 2⟩) ++ qs) (List.replicate i 2) = if ((i + k : Nat) : Int) ≤ c.stack ∨ k = 0 then lineV c qs (List.replicate (i + k) 2) else none
  | 0, i => by rw [if_pos (.inr rfl)]; rfl
  | k + 1, i => by
    rw [List.range'_succ, List.map_cons, List.cons_append, lineV, step_push, Option.bind_some, ← List.replicate_succ']
    rw [List.length_replicate, line_push c qs k (i + 1)]
    by_cases h : ((i + (k + 1) : Nat) : Int) ≤ c.stack
    · rw [if_pos (by omega), if_pos (by left; omega), if_pos (.inl h), show i + 1 + k = i + (k + 1) by omega]
    · rw [if_neg (c := ((i + (k + 1) : Nat) : Int) ≤ c.stack ∨ k + 1 = 0) (by omega)]
      by_cases h1 : ((i + 1 : Nat) : Int) ≤ c.stack
      · rw [if_pos h1, if_neg (by omega)]
      · rw [if_neg h1]
theorem line_add (c : CodeV) (qs : List InsV) : ∀ (k : Nat), ((k + 1 : Nat) : Int) ≤ c.stack → lineV c (List.replicate k ⟨5, 3, 2⟩ ++ qs) (List.replicate (k + 1) 2) = lineV c qs [2]
  | 0, _ => rfl
  | k + 1, h => by
    rw [List.replicate_succ, List.cons_append, lineV, step_add, Option.bind_some, List.length_replicate, if_pos (by omega)]
    exact line_add c qs k (by omega)
theorem stackBody_len {n : Nat} (h : 1 ≤ n) : (stackBody n).length = 2 * n + 1 := by unfold stackBody; simp; omega
theorem chk_stack {n : Nat} {s : Int} (h1 : 1 ≤ n) (h2 : n ≤ 70) (h3 : 0 ≤ s) : chk (stackV n s) = if 64 < s then 2 else if s < n then 50 else 0 := by
  unfold chk
  have hl := stackBody_len h1
  by_cases hs : 64 < s
  · rw [if_pos (.inr (.inr hs)), if_pos hs]
  · rw [if_neg (by simp only [hl]; simp; omega), if_neg hs]
    have hf : formedV (stackV n s) = true := by
      have hlast : (stackBody n).getLast?.map (·.op) = some 9 := by
        unfold stackBody
        rw [show ([⟨3, 0, 0⟩, ⟨9, 0, 0⟩] : List InsV) = [⟨3, 0, 0⟩] ++ [⟨9, 0, 0⟩] from rfl, ← List.append_assoc, List.getLast?_concat]; rfl
      have hall : (stackBody n).all (fun q => decide (1 ≤ q.op) && decide (q.op ≤ 9)) = true := by
        unfold stackBody
        rw [List.all_append, List.all_append, Bool.and_eq_true, Bool.and_eq_true]
        refine ⟨⟨List.all_eq_true.2 fun q hq => ?_, List.all_eq_true.2 fun q hq => ?_⟩, rfl⟩
        · obtain ⟨i, _, rfl⟩ := List.mem_map.1 hq; rfl
        · rw [(List.mem_replicate.1 hq).2]; rfl
      unfold formedV
      simp only [hlast, hall]
      have hw : width 2 ≠ 0 := by decide
      simp [h3, hw]
    rw [if_neg (by rw [hf]; decide)]
    have hrun : (runV (stackV n s) (stackBody n) 0 start).isNone = !decide ((n : Int) ≤ s) := by
      unfold stackBody
      have hsplit : (List.range n).map (fun i => (⟨1, ((i % 100 : Nat) : Int), 2⟩ : InsV)) ++ List.replicate (n - 1) ⟨5, 3, 2⟩ ++ [⟨3, 0, 0⟩, ⟨9, 0, 0⟩] = ((List.range n).map (fun i => (⟨1, ((i % 100 : Nat) : Int), 2⟩ : InsV)) ++ List.replicate (n - 1) ⟨5, 3, 2⟩ ++ [⟨3, 0, 0⟩]) ++ [⟨9, 0, 0⟩] := by simp
      rw [hsplit, line_run (stackV n s) _ 0 start [] start0 start_above (fun q hq => ?_) ⟨9, 0, 0⟩ rfl]
      · rw [← hsplit, List.append_assoc, List.range_eq_range']
        have := line_push (stackV n s) (List.replicate (n - 1) ⟨5, 3, 2⟩ ++ [⟨3, 0, 0⟩, ⟨9, 0, 0⟩]) n 0
        rw [List.replicate_zero, Nat.zero_add] at this
        rw [this]
        by_cases hn : (n : Int) ≤ s
        · rw [if_pos (.inl hn)]
          have h4 := line_add (stackV n s) [⟨3, 0, 0⟩, ⟨9, 0, 0⟩] (n - 1) (by show ((n - 1 + 1 : Nat) : Int) ≤ s; omega)
          rw [show n - 1 + 1 = n by omega] at h4
          rw [h4]
          have e1 : stepV (stackV n s) ⟨3, 0, 0⟩ [2] = some [] := rfl
          have e2 : stepV (stackV n s) ⟨9, 0, 0⟩ [] = some [] := rfl
          simp [lineV, e1, e2, h3, hn]
        · rw [if_neg (by show ¬ ((n : Int) ≤ s ∨ n = 0); omega)]
          simp [hn]
      · simp only [List.mem_append, List.mem_singleton] at hq
        rcases hq with (hq | hq) | rfl
        · obtain ⟨i, _, rfl⟩ := List.mem_map.1 hq; exact ⟨by simp, by simp, by simp⟩
        · rw [(List.mem_replicate.1 hq).2]; decide
        · decide
    show (if (runV (stackV n s) (stackBody n) 0 start).isNone = true then (50 : Int) else 0) = _
    rw [hrun]
    by_cases hn : (n : Int) ≤ s
    · rw [if_neg (c := s < (n : Int)) (by omega)]; simp [hn]
    · rw [if_pos (c := s < (n : Int)) (by omega)]; simp [hn]
end Go.Proofs.Ytipfcfaigbeakaa

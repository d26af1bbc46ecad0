/-
  What the plain rules say of a row of jumps.
  No condition.
-/
import Derived.Test.YtipfcfaigbeakaaCodePlain3
namespace Go.Proofs.Ytipfcfaigbeakaa

abbrev jmp0 : InsV := ⟨7, 0, 0⟩
theorem step_jmp (c : CodeV) (n : Int) (l : List Int) : stepV c ⟨7, n, 0⟩ l = some l := by
  unfold stepV; rw [if_neg (by simp), if_neg (by simp), if_neg (by simp), if_neg (by simp), if_neg (by simp), if_neg (by simp), if_pos rfl, if_pos rfl]
theorem ways_jmp {i n : Nat} (h : i + 1 < n) : waysV jmp0 i n = some [i + 1] := by
  unfold waysV; rw [if_pos rfl, if_pos ⟨by decide, by simp; omega⟩]; rfl
/-- Only one instruction ahead is known, with nothing on the stack. -/
def One (i : Nat) (st : Known) : Prop := st i = some [] ∧ ∀ j, i < j → st j = none
/-- What is known ahead has nothing on the stack. -/
def Nul (i : Nat) (st : Known) : Prop := ∀ j, i ≤ j → st j = none ∨ st j = some []
theorem One.nul {i : Nat} {st : Known} (h : One i st) : Nul i st := fun j hj => by
  rcases Nat.lt_or_eq_of_le hj with h1 | rfl
  · exact .inl (h.2 j h1)
  · exact .inr h.1
theorem put_none {st : Known} {w : Nat} (l : List Int) (h : st w = none) : putV st w l = some (fun j => if j = w then some l else st j) := by unfold putV; rw [h]
theorem Nul.put {i w : Nat} {st : Known} (h : Nul i st) (hw : i ≤ w) : ∃ st', putV st w [] = some st' ∧ Nul i st' := by
  rcases h w hw with e | e
  · refine ⟨_, put_none [] e, fun j hj => ?_⟩
    by_cases hjw : j = w
    · right; simp [hjw]
    · simp only [if_neg hjw]; exact h j hj
  · exact ⟨st, by unfold putV; rw [e]; rfl, h⟩
theorem Nul.le {i k : Nat} {st : Known} (h : Nul i st) (hk : i ≤ k) : Nul k st := fun j hj => h j (by omega)
theorem one_jumps {c : CodeV} (hs : 0 ≤ c.stack) : ∀ (k i : Nat) (st : Known), One i st → i + k < c.body.length → ∃ st', One (i + k) st' ∧ ∀ qs, runV c (List.replicate k jmp0 ++ qs) i st = runV c qs (i + k) st'
  | 0, i, st, h, _ => ⟨st, h, fun _ => rfl⟩
  | k + 1, i, st, h, hl => by
    have h1 : One (i + 1) (fun j => if j = i + 1 then some [] else st j) := ⟨by simp, fun j hj => by simp only; rw [if_neg (by omega)]; exact h.2 j (by omega)⟩
    obtain ⟨st', h2, h3⟩ := one_jumps hs k (i + 1) _ h1 (by omega)
    refine ⟨st', by rw [show i + (k + 1) = i + 1 + k by omega]; exact h2, fun qs => ?_⟩
    rw [List.replicate_succ, List.cons_append, runV, advV_one, h.1]
    simp only [oneV, step_jmp, ways_jmp (show i + 1 < c.body.length by omega), List.length_nil, Option.bind_some, putsV, put_none [] (h.2 (i + 1) (by omega))]
    rw [if_pos (by simpa using hs), Option.bind_some, h3, show i + 1 + k = i + (k + 1) by omega]
theorem nul_jumps {c : CodeV} (hs : 0 ≤ c.stack) : ∀ (k i : Nat) (st : Known), Nul i st → i + k < c.body.length → ∃ st', Nul (i + k) st' ∧ ∀ qs, runV c (List.replicate k jmp0 ++ qs) i st = runV c qs (i + k) st'
  | 0, i, st, h, _ => ⟨st, h, fun _ => rfl⟩
  | k + 1, i, st, h, hl => by
    have hadv : ∃ st1, advV c jmp0 i st = some st1 ∧ Nul (i + 1) st1 := by
      rw [advV_one]
      rcases h i (Nat.le_refl _) with e | e
      · rw [e]; exact ⟨st, rfl, h.le (by omega)⟩
      · obtain ⟨st1, e1, h1⟩ := (h.le (Nat.le_succ i)).put (w := i + 1) (Nat.le_refl _)
        refine ⟨st1, ?_, h1⟩
        rw [e]
        simp only [oneV, step_jmp, ways_jmp (show i + 1 < c.body.length by omega), List.length_nil, Option.bind_some, putsV, e1]
        rw [if_pos (by simpa using hs)]
    obtain ⟨st1, e1, h1⟩ := hadv
    obtain ⟨st', h2, h3⟩ := nul_jumps hs k (i + 1) _ h1 (by omega)
    refine ⟨st', by rw [show i + (k + 1) = i + 1 + k by omega]; exact h2, fun qs => ?_⟩
    rw [List.replicate_succ, List.cons_append, runV, e1, Option.bind_some, h3, show i + 1 + k = i + (k + 1) by omega]
theorem nul_end {c : CodeV} (hs : 0 ≤ c.stack) {i : Nat} {st : Known} (h : Nul i st) : (runV c [⟨9, 0, 0⟩] i st).isNone = false := by
  have e2 : stepV c ⟨9, 0, 0⟩ [] = some [] := rfl
  have hw : waysV ⟨9, 0, 0⟩ i c.body.length = some [] := by unfold waysV; rw [if_neg (by simp), if_neg (by simp), if_pos rfl]
  rw [runV, advV_one]
  rcases h i (Nat.le_refl _) with e | e
  · rw [e]; rfl
  · rw [e]
    simp only [oneV, e2, hw, List.length_nil, Option.bind_some, putsV]
    rw [if_pos (by simpa using hs)]; rfl
theorem one_start : One 0 start := ⟨start0, start_above⟩

/-- n jumps, one of them by more; the end. -/
def jumpBody (n at' : Nat) (b : Int) : List InsV := List.replicate at' jmp0 ++ (⟨7, b, 0⟩ :: (List.replicate (n - at' - 1) jmp0 ++ [⟨9, 0, 0⟩]))
def branchBody (n at' : Nat) (b : Int) : List InsV := List.replicate at' jmp0 ++ (⟨1, 1, 1⟩ :: ⟨8, b, 0⟩ :: (List.replicate (n - at' - 1) jmp0 ++ [⟨9, 0, 0⟩]))
abbrev jumpV (l : List InsV) : CodeV := { kinds := [], ins := 0, outs := 0, cells := 0, init := [], stack := 1, body := l }
theorem jump_all {k m : Nat} {qs : List InsV} (hq : qs.all (fun q => decide (1 ≤ q.op) && decide (q.op ≤ 9)) = true) : (List.replicate k jmp0 ++ (qs ++ (List.replicate m jmp0 ++ [(⟨9, 0, 0⟩ : InsV)]))).all (fun q => decide (1 ≤ q.op) && decide (q.op ≤ 9)) = true := by
  rw [List.all_append, List.all_append, List.all_append, hq]
  simp
theorem formed_jump {l : List InsV} (h : l.all (fun q => decide (1 ≤ q.op) && decide (q.op ≤ 9)) = true) (h9 : l.getLast?.map (·.op) = some 9) : formedV (jumpV l) = true := by
  unfold formedV
  simp only [h, h9]
  rfl
theorem last_nine (a b : List InsV) : (a ++ (b ++ [(⟨9, 0, 0⟩ : InsV)])).getLast?.map (·.op) = some 9 := by
  rw [← List.append_assoc, List.getLast?_concat]; rfl
theorem chk_jump {l : List InsV} (hl : l.length ≤ 60000) (hf : formedV (jumpV l) = true) {x : Bool} (h : (runV (jumpV l) l 0 start).isNone = x) : chk (jumpV l) = if x then 50 else 0 := by
  unfold chk
  rw [if_neg (by simp; omega), if_neg (by rw [hf]; decide)]
  rw [h]
theorem chk_jumpBody {n at' : Nat} (b : Int) (hn : n ≤ 100) (ha : at' + 1 < n) : chk (jumpV (jumpBody n at' b)) = if 0 ≤ b ∧ b ≤ (n : Int) - at' - 1 then 0 else 50 := by
  have hlen : (jumpBody n at' b).length = n + 1 := by unfold jumpBody; simp; omega
  have hf : formedV (jumpV (jumpBody n at' b)) = true := formed_jump (by unfold jumpBody; exact jump_all (qs := [⟨7, b, 0⟩]) (by rfl)) (by
    unfold jumpBody
    rw [show (⟨7, b, 0⟩ :: (List.replicate (n - at' - 1) jmp0 ++ [⟨9, 0, 0⟩]) : List InsV) = (⟨7, b, 0⟩ :: List.replicate (n - at' - 1) jmp0) ++ [⟨9, 0, 0⟩] from rfl]
    exact last_nine _ _)
  have hs : 0 ≤ (jumpV (jumpBody n at' b)).stack := Int.zero_le_ofNat 1
  obtain ⟨st1, h1, r1⟩ := one_jumps (c := jumpV (jumpBody n at' b)) hs at' 0 start one_start (by show 0 + at' < (jumpBody n at' b).length; omega)
  rw [Nat.zero_add] at h1 r1
  have hrun : (runV (jumpV (jumpBody n at' b)) (jumpBody n at' b) 0 start).isNone = !decide (0 ≤ b ∧ b ≤ (n : Int) - at' - 1) := by
    have := r1 (⟨7, b, 0⟩ :: (List.replicate (n - at' - 1) jmp0 ++ [⟨9, 0, 0⟩]))
    show (runV (jumpV (jumpBody n at' b)) (List.replicate at' jmp0 ++ (⟨7, b, 0⟩ :: (List.replicate (n - at' - 1) jmp0 ++ [⟨9, 0, 0⟩]))) 0 start).isNone = _
    rw [this, runV, advV_one, h1.1]
    simp only [oneV, step_jmp, List.length_nil]
    rw [if_pos (by decide)]
    by_cases hb : 0 ≤ b ∧ b ≤ (n : Int) - at' - 1
    · have hw : waysV ⟨7, b, 0⟩ at' (jumpBody n at' b).length = some [at' + 1 + b.toNat] := by unfold waysV; rw [if_pos rfl, if_pos ⟨hb.1, by rw [hlen]; simp; omega⟩]
      obtain ⟨st2, e2, h2⟩ := (h1.nul.le (Nat.le_succ at')).put (w := at' + 1 + b.toNat) (by omega)
      obtain ⟨st3, h3, r3⟩ := nul_jumps (c := jumpV (jumpBody n at' b)) hs (n - at' - 1) (at' + 1) st2 h2 (by show _ < (jumpBody n at' b).length; omega)
      simp only [hw, Option.bind_some, putsV, e2]
      rw [r3, nul_end hs h3]; simp [hb]
    · have hw : waysV ⟨7, b, 0⟩ at' (jumpBody n at' b).length = none := by unfold waysV; rw [if_pos rfl, if_neg (by rw [hlen]; simp; omega)]
      simp [hw, hb]
  rw [chk_jump (by omega) hf hrun]
  by_cases hb : 0 ≤ b ∧ b ≤ (n : Int) - at' - 1 <;> simp [hb]
theorem chk_branchBody {n at' : Nat} (b : Int) (hn : n ≤ 100) (ha : at' + 1 < n) : chk (jumpV (branchBody n at' b)) = if 0 ≤ b ∧ b ≤ (n : Int) - at' - 1 then 0 else 50 := by
  have hlen : (branchBody n at' b).length = n + 2 := by unfold branchBody; simp; omega
  have hf : formedV (jumpV (branchBody n at' b)) = true := formed_jump (by unfold branchBody; exact jump_all (qs := [⟨1, 1, 1⟩, ⟨8, b, 0⟩]) (by rfl)) (by
    unfold branchBody
    rw [show (⟨1, 1, 1⟩ :: ⟨8, b, 0⟩ :: (List.replicate (n - at' - 1) jmp0 ++ [⟨9, 0, 0⟩]) : List InsV) = (⟨1, 1, 1⟩ :: ⟨8, b, 0⟩ :: List.replicate (n - at' - 1) jmp0) ++ [⟨9, 0, 0⟩] from rfl]
    exact last_nine _ _)
  have hs : 0 ≤ (jumpV (branchBody n at' b)).stack := Int.zero_le_ofNat 1
  obtain ⟨st1, h1, r1⟩ := one_jumps (c := jumpV (branchBody n at' b)) hs at' 0 start one_start (by show 0 + at' < (branchBody n at' b).length; omega)
  rw [Nat.zero_add] at h1 r1
  have hrun : (runV (jumpV (branchBody n at' b)) (branchBody n at' b) 0 start).isNone = !decide (0 ≤ b ∧ b ≤ (n : Int) - at' - 1) := by
    have := r1 (⟨1, 1, 1⟩ :: ⟨8, b, 0⟩ :: (List.replicate (n - at' - 1) jmp0 ++ [⟨9, 0, 0⟩]))
    show (runV (jumpV (branchBody n at' b)) (List.replicate at' jmp0 ++ (⟨1, 1, 1⟩ :: ⟨8, b, 0⟩ :: (List.replicate (n - at' - 1) jmp0 ++ [⟨9, 0, 0⟩]))) 0 start).isNone = _
    have e1 : stepV (jumpV (branchBody n at' b)) ⟨1, 1, 1⟩ [] = some [1] := rfl
    have e2 : stepV (jumpV (branchBody n at' b)) ⟨8, b, 0⟩ [1] = some [] := rfl
    have w1 : waysV ⟨1, 1, 1⟩ at' (branchBody n at' b).length = some [at' + 1] := rfl
    rw [this, runV, advV_one, h1.1]
    simp only [oneV, e1, List.length_singleton, w1, Option.bind_some, putsV, put_none [1] (h1.2 (at' + 1) (by omega))]
    rw [if_pos (by decide), Option.bind_some, runV, advV_one]
    simp only [if_true, oneV, e2, List.length_nil]
    rw [if_pos (by decide)]
    by_cases hb : 0 ≤ b ∧ b ≤ (n : Int) - at' - 1
    · have hw : waysV ⟨8, b, 0⟩ (at' + 1) (branchBody n at' b).length = some [at' + 1 + 1, at' + 1 + 1 + b.toNat] := by unfold waysV; rw [if_neg (by simp), if_pos rfl, if_pos ⟨hb.1, by rw [hlen]; simp; omega⟩]
      have h0 : Nul (at' + 1 + 1) (fun j => if j = at' + 1 then some [1] else st1 j) := fun j hj => by
        left; simp only; rw [if_neg (by omega)]; exact h1.2 j (by omega)
      obtain ⟨st2, e3, h2⟩ := h0.put (w := at' + 1 + 1) (Nat.le_refl _)
      obtain ⟨st3, e4, h3⟩ := h2.put (w := at' + 1 + 1 + b.toNat) (by omega)
      obtain ⟨st4, h4, r4⟩ := nul_jumps (c := jumpV (branchBody n at' b)) hs (n - at' - 1) (at' + 1 + 1) st3 h3 (by show _ < (branchBody n at' b).length; omega)
      simp only [hw, Option.bind_some, putsV, e3, e4]
      rw [r4, nul_end hs h4]; simp [hb]
    · have hw : waysV ⟨8, b, 0⟩ (at' + 1) (branchBody n at' b).length = none := by unfold waysV; rw [if_neg (by simp), if_pos rfl, if_neg (by rw [hlen]; simp; omega)]
      simp [hw, hb]
  rw [chk_jump (by omega) hf hrun]
  by_cases hb : 0 ≤ b ∧ b ≤ (n : Int) - at' - 1 <;> simp [hb]
end Go.Proofs.Ytipfcfaigbeakaa

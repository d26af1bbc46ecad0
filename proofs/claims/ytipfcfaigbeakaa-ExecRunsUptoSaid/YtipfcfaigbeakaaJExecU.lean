/-
  The two machines, each tick of them whole: by the blocks that are theirs.
  Conditions: the machine's code is code.
  The document's example of code: its ticks in plain words.
  No condition.
  Rows of numbers that came in as an argument: how they lie in memory.
  No condition.
  The walks of what the laws on the machine use besides it: rows alike, too much.
  Conditions: the rows lie in memory.
  The machine beside the document's machine, and a second one: what a tick of one leaves of the others.
  Conditions: the machines' code is code.
-/
import Derived.Test.YtipfcfaigbeakaaMExecS
import Derived.Test.YtipfcfaigbeakaaJLaw
import Derived.Test.YtipfcfaigbeakaaJPost
import Derived.Test.YtipfcfaigbeakaaJExecB
import Derived.WideShapes
namespace Go.Proofs.Ytipfcfaigbeakaa
open Go.RowKit
set_option linter.unusedSimpArgs false
set_option linter.unusedVariables false
set_option maxRecDepth 100000

theorem wrap64_id {x : Int} (h1 : -9223372036854775808 ≤ x) (h2 : x < 9223372036854775808) : wrap64 x = x := IntWalk.wrap64_in x (by omega)
/-- Code that the check takes. -/
structure GoodC (c : CodeV) : Prop where
  chk : chk c = 0
  ints : ∀ q ∈ c.body, I64 q.op ∧ I64 q.n ∧ I64 q.k
theorem end_vals {c : CodeV} {fin : Known} (F : Fin c fin) (G : Formed c) (hI : ∀ q ∈ c.body, I64 q.op ∧ I64 q.n ∧ I64 q.k) : ∀ (f : Nat) (s t : List Int) (i n : Nat), AtV c fin s t i n → c.body.length ≤ i + f →
    ValsK c.kinds (endV c.body f s t i n).1 ∧ n < (endV c.body f s t i n).2 ∧ (endV c.body f s t i n).2 ≤ c.body.length
  | 0, s, t, i, n, h, hf => by have := h.lt; omega
  | f + 1, s, t, i, n, h, hf => by
    have hl := h.lt
    have hn := h.count
    obtain ⟨q, hq⟩ : ∃ q, c.body[i]? = some q := ⟨_, List.getElem?_eq_getElem hl⟩
    rcases h.next F G hI hq with ⟨h9, _⟩ | ⟨h9, s', t', i', hD, hA⟩
    · rw [endV_end hq h9 hf]
      exact ⟨h.vals, by omega, by omega⟩
    · have e : endV c.body (f + 1) s t i n = endV c.body f s' t' i' (n + 1) := by
        rw [endV, hq]
        dsimp only
        rw [if_neg h9, hD.is]
      rw [e]
      obtain ⟨a, b, d⟩ := end_vals F G hI f s' t' i' (n + 1) hA (by have := hD.on; omega)
      exact ⟨a, by omega, d⟩
/-- What a tick tells is of the kinds that the code says. -/
theorem tick_kinds {c : CodeV} (hg : GoodC c) {cs ins : List Int} (hc : CellsOk c cs) (hI : ∀ x ∈ ins, I64 x) : CellsOk c (tickV c cs ins).cells ∧ ((tickV c cs ins).err = 0 → 1 ≤ (tickV c cs ins).n ∧ (tickV c cs ins).n ≤ c.body.length ∧ ((tickV c cs ins).outs.length : Int) = c.outs) ∧ ((tickV c cs ins).err ≠ 0 → (tickV c cs ins).n = 0 ∧ (tickV c cs ins).outs = [] ∧ (tickV c cs ins).cells = cs) ∧ (∀ x ∈ (tickV c cs ins).outs, I64 x) := by
  obtain ⟨G, _, _, _, fin, F⟩ := chk_fin hg.chk
  unfold tickV
  by_cases h1 : (ins.length : Int) ≠ c.ins
  · rw [if_pos h1]; exact ⟨hc, fun h => absurd h (by simp), fun _ => ⟨rfl, rfl, rfl⟩, by simp⟩
  rw [if_neg h1]
  by_cases h2 : insOk c ins = false
  · rw [if_pos h2]; exact ⟨hc, fun h => absurd h (by simp), fun _ => ⟨rfl, rfl, rfl⟩, by simp⟩
  rw [if_neg h2]
  dsimp only
  have hbpos : 0 < c.body.length := by
    have := G.last
    cases hb : c.body with
    | nil => rw [hb] at this; cases this
    | cons => simp
  have hv := slots0_vals G hc (by omega) hI (by simpa using h2)
  obtain ⟨a, b, d⟩ := end_vals F G hg.ints c.body.length (slots0 c cs ins) [] 0 0 ⟨hbpos, hv, ⟨[], F.first, ValsK.nil⟩, Nat.le_refl _⟩ (by omega)
  have g1 := G.sum
  have g2 := G.outs
  have g3 := G.cells
  refine ⟨?_, fun _ => ⟨by omega, d, ?_⟩, fun h => absurd rfl h, ?_⟩
  · unfold CellsOk
    rw [show c.ins.toNat = ins.length by omega]
    exact (a.drop _).take _
  · have := a.1
    rw [List.length_take, List.length_drop]
    omega
  · intro x hx
    obtain ⟨j, hj⟩ := List.getElem?_of_mem (List.mem_of_mem_drop (List.mem_of_mem_take hx))
    obtain ⟨k, hk⟩ : ∃ k, c.kinds[j]? = some k := ⟨_, List.getElem?_eq_getElem (by rw [a.1]; exact (List.getElem?_eq_some_iff.1 hj).1)⟩
    exact (a.2 j k x hk hj).2
/-- A machine at rest: the blocks of S are its own. -/
def MI (g B : Nat) (c : CodeV) (cs : List Int) (S : List Nat) (w : World) : Prop :=
  ∃ (lv kv iv bv sv tv : Value) (pc : Int) (ends : Bool) (s t : List Int), MS g B c lv kv iv bv sv tv pc ends cs s t w ∧ g ∈ S ∧ (∀ v ∈ [lv, kv, iv, bv, sv, tv], ∀ b, v.ownBlock = some b → b ∈ S) ∧ (∀ k ∈ S, B ≤ k ∧ k < w.heap.size) ∧ CellsOk c cs
theorem MI.kb {g B : Nat} {c : CodeV} {cs : List Int} {S T : List Nat} {w w' : World} (h : MI g B c cs S w) (hk : Kb T w w') (hT : ∀ k ∈ S, k ∉ T) : MI g B c cs S w' := by
  obtain ⟨lv, kv, iv, bv, sv, tv, pc, ends, s, t, hm, hg, hv, hS, hc⟩ := h
  exact ⟨lv, kv, iv, bv, sv, tv, pc, ends, s, t, hm.kb hk (hT g hg) (fun v hv' b hb e => hT b (hv v hv' b e) hb), hg, hv, fun k hk' => ⟨(hS k hk').1, Nat.lt_of_lt_of_le (hS k hk').2 hk.size⟩, hc⟩
theorem MI.ext {g B : Nat} {c : CodeV} {cs : List Int} {S : List Nat} {w w' : World} (h : MI g B c cs S w) (hx : Ext w w') : MI g B c cs S w' := h.kb (T := []) (Kb.of_ext hx) (by simp)
theorem MI.lt {g B : Nat} {c : CodeV} {cs : List Int} {S : List Nat} {w : World} (h : MI g B c cs S w) : ∀ k ∈ S, B ≤ k ∧ k < w.heap.size := by
  obtain ⟨_, _, _, _, _, _, _, _, _, _, _, _, _, hS, _⟩ := h; exact hS
/-- The blocks of a made machine. -/
theorem MadeM.mi {w w' : World} {c : CodeV} {e : Ending} (h : MadeM w c e w') (hc : CellsOk c c.init) : ∃ g S, e = .returned (.tuple #[.pointer (some ⟨g, 0, none⟩), .int .i64 0]) ∧ MI g w.heap.size c c.init S w' ∧ Ext w w' := by
  obtain ⟨g, lv, kv, iv, bv, rfl, hg, hb, hk, hi, hbo, nk, ni, nb, hl, hx⟩ := h
  have hlo : w'.ownsRow w.heap.size 3 1 lv c.init.length (i64s c.init) := ownsRow_base hl (by omega)
  have hlb : ∀ b, lv.ownBlock = some b → g + 1 ≤ b := fun b hb => (hl.lt b hb).1
  have hm : MS g w.heap.size c lv kv iv bv (.slice none 0 0) (.slice none 0 0) 0 false c.init [] [] w' := by
    refine ⟨hb, hlo, hk, hi, hbo, own_nil _ _ _ _, own_nil _ _ _ _, hx.size, ?_, ?_, ?_, ?_⟩
    · intro v hv e
      simp only [List.mem_cons, List.not_mem_nil, or_false] at hv
      rcases hv with h | h | h | h | h | h <;> subst h
      · have := hlb g e; omega
      · have := nk g e; omega
      · have := ni g e; omega
      · have := nb g e; omega
      · simp [Value.ownBlock] at e
      · simp [Value.ownBlock] at e
    · intro v hv b h1 h2
      have := hlb b h1
      simp only [List.mem_cons, List.not_mem_nil, or_false] at hv
      rcases hv with h | h | h | h | h <;> subst h
      · have := nk b h2; omega
      · have := ni b h2; omega
      · have := nb b h2; omega
      · simp [Value.ownBlock] at h2
      · simp [Value.ownBlock] at h2
    · intro v _ b h1; simp [Value.ownBlock] at h1
    · intro v _ b h1; simp [Value.ownBlock] at h1
  refine ⟨g, g :: (lv.ownBlock.toList ++ (kv.ownBlock.toList ++ (iv.ownBlock.toList ++ bv.ownBlock.toList))), rfl, ⟨lv, kv, iv, bv, _, _, _, _, _, _, hm, by simp, ?_, ?_, hc⟩, hx⟩
  · intro v hv b hvb
    simp only [List.mem_cons, List.not_mem_nil, or_false] at hv
    rcases hv with h | h | h | h | h | h <;> subst h
    · simp [hvb]
    · simp [hvb]
    · simp [hvb]
    · simp [hvb]
    · simp [Value.ownBlock] at hvb
    · simp [Value.ownBlock] at hvb
  · intro k hk'
    rcases List.mem_cons.1 hk' with e | e
    · rw [e]; exact ⟨hg, hb.lt⟩
    · rcases List.mem_append.1 e with e | e
      · exact hlo.lt k (Option.mem_toList.1 e)
      · rcases List.mem_append.1 e with e | e
        · exact hk.lt k (Option.mem_toList.1 e)
        · rcases List.mem_append.1 e with e | e
          · exact hi.lt k (Option.mem_toList.1 e)
          · exact hbo.lt k (Option.mem_toList.1 e)
/-- What a tick leaves. -/
def TickI (g B : Nat) (c : CodeV) (r : TickV) (S : List Nat) (w : World) (e : Ending) (w' : World) : Prop :=
  ∃ (v : Value) (S' : List Nat) (base : Nat), e = .returned (.tuple #[v, .int .i64 r.n, .int .i64 r.err]) ∧ MI g B c r.cells S' w' ∧ Kb S w w' ∧ (∀ k ∈ S', k ∈ S ∨ w.heap.size ≤ k) ∧ w.heap.size ≤ base ∧ w'.ownsRow base 3 1 v r.outs.length (i64s r.outs) ∧ ∀ b, v.ownBlock = some b → b ∉ S'
theorem mtick {g B : Nat} {c : CodeV} {cs ins : List Int} {S : List Nat} {insv : Value} {w : World} (hg : GoodC c) (h : MI g B c cs S w) (hins : SlC w insv ins.length (i64s ins)) (hI : ∀ x ∈ ins, I64 x) (hS : ins ≠ [] → ∀ k ∈ S, insv.ownBlock ≠ some k) :
    Calls Try.prog 30 #[.pointer (some ⟨g, 0, none⟩), insv] w (TickI g B c (tickV c cs ins) S w) := by
  obtain ⟨G, hbl, hkl, hst, fin, F⟩ := chk_fin hg.chk
  obtain ⟨lv, kv, iv, bv, sv, tv, pc, ends, s, t, hm, hgS, hv, hSz, hc⟩ := id h
  have hin := G.sum
  have ho := G.outs
  have hce := G.cells
  by_cases h1 : (ins.length : Int) ≠ c.ins
  · refine (tick_count hm hins h1).mono ?_
    rintro e w1 ⟨rfl, rfl⟩
    unfold tickV
    rw [if_pos h1]
    exact ⟨_, S, w.heap.size, rfl, h, Kb.refl _ _, fun k hk => .inl hk, Nat.le_refl _, own_nil _ _ _ _, fun b hb => by simp [Value.ownBlock] at hb⟩
  · have hl : (ins.length : Int) = c.ins := by omega
    by_cases h2 : insOk c ins = false
    · refine (tick_arg hm hins hl (by omega) hkl h2).mono ?_
      rintro e w1 ⟨rfl, rfl⟩
      unfold tickV
      rw [if_neg h1, if_pos h2]
      exact ⟨_, S, w.heap.size, rfl, h, Kb.refl _ _, fun k hk => .inl hk, Nat.le_refl _, own_nil _ _ _ _, fun b hb => by simp [Value.ownBlock] at hb⟩
    · have hT := tick_kinds hg hc hI
      refine (tick_good hm hins (fun e => hS e g hgS) G hbl hkl hst F hg.ints hI hl (by simpa using h2) hc).mono ?_
      rintro e w1 ⟨v, sv', tv', pc', ends', s', w5, rfl, hm5, hx5, hown, ⟨b1, hb1, hsb⟩, htb, hk5⟩
      have he : (tickV c cs ins).err = 0 := by unfold tickV; rw [if_neg h1, if_neg h2]
      have hks : Kb S w w5 := hk5.mono fun k hk => by
        rcases List.mem_cons.1 hk with e | e
        · rw [e]; exact hgS
        · rcases List.mem_append.1 e with e | e
          · exact hv lv (by simp) k (Option.mem_toList.1 e)
          · exact hv tv (by simp) k (Option.mem_toList.1 e)
      have hbs : b1 < w5.heap.size := (hm5.slots.lt b1 hsb).2
      refine ⟨v, S ++ (sv'.ownBlock.toList ++ tv'.ownBlock.toList), w5.heap.size, by rw [he], ⟨lv, kv, iv, bv, sv', tv', pc', ends', s', [], hm5.ext hx5, List.mem_append_left _ hgS, ?_, ?_, hT.1⟩, hks.trans (Kb.of_ext hx5), ?_, hks.size, hown, ?_⟩
      · intro u hu b hb
        simp only [List.mem_cons, List.not_mem_nil, or_false] at hu
        rcases hu with e | e | e | e | e | e
        · subst e; exact List.mem_append_left _ (hv _ (by simp) b hb)
        · subst e; exact List.mem_append_left _ (hv _ (by simp) b hb)
        · subst e; exact List.mem_append_left _ (hv _ (by simp) b hb)
        · subst e; exact List.mem_append_left _ (hv _ (by simp) b hb)
        · subst e; exact List.mem_append_right _ (List.mem_append_left _ (Option.mem_toList.2 hb))
        · subst e; exact List.mem_append_right _ (List.mem_append_right _ (Option.mem_toList.2 hb))
      · intro k hk
        rcases List.mem_append.1 hk with e | e
        · exact ⟨(hSz k e).1, Nat.lt_of_lt_of_le (hSz k e).2 (Nat.le_trans hks.size hx5.size)⟩
        · rcases List.mem_append.1 e with e | e
          · have := hm5.slots.lt k (Option.mem_toList.1 e); exact ⟨this.1, Nat.lt_of_lt_of_le this.2 hx5.size⟩
          · have := hm5.stack.lt k (Option.mem_toList.1 e); exact ⟨this.1, Nat.lt_of_lt_of_le this.2 hx5.size⟩
      · intro k hk
        rcases List.mem_append.1 hk with e | e
        · exact .inl e
        · rcases List.mem_append.1 e with e | e
          · rw [hsb] at e; simp at e; exact .inr (by omega)
          · rcases htb with h3 | ⟨b2, hb2, h3⟩
            · rw [h3] at e; exact .inl (hv tv (by simp) k (Option.mem_toList.1 e))
            · rw [h3] at e; simp at e; exact .inr (by omega)
      · intro b hb hk
        have hlo := (hown.lt b hb).1
        rcases List.mem_append.1 hk with e | e
        · have := (hSz b e).2; have := hks.size; omega
        · rcases List.mem_append.1 e with e | e
          · have := (hm5.slots.lt b (Option.mem_toList.1 e)).2; omega
          · have := (hm5.stack.lt b (Option.mem_toList.1 e)).2; omega
/-- The document's machine at rest: the blocks of S are its own. -/
def RI (g : Nat) (c : CodeV) (kv iv bv : Value) (cs : List Int) (S : List Nat) (w : World) : Prop :=
  ∃ lv, RS g c kv iv bv lv cs w ∧ g ∈ S ∧ (∀ b, lv.ownBlock = some b → b ∈ S) ∧ (∀ k ∈ S, k < w.heap.size) ∧ CellsOk c cs
theorem RI.kb {g : Nat} {c : CodeV} {kv iv bv : Value} {cs : List Int} {S T : List Nat} {w w' : World} (h : RI g c kv iv bv cs S w) (hk : Kb T w w') (hT : ∀ k ∈ S, k ∉ T) (hcode : CodeIn w' kv iv bv c) : RI g c kv iv bv cs S w' := by
  obtain ⟨lv, hr, hg, hl, hS, hc⟩ := h
  refine ⟨lv, ⟨hr.box.kb hk (hT g hg), hcode, hr.cells.kb hk (fun b hb e => hT b (hl b e) hb), hr.nk, hr.ni, hr.nb⟩, hg, hl, fun k hk' => Nat.lt_of_lt_of_le (hS k hk') hk.size, hc⟩
theorem RI.code {g : Nat} {c : CodeV} {kv iv bv : Value} {cs : List Int} {S : List Nat} {w : World} (h : RI g c kv iv bv cs S w) : CodeIn w kv iv bv c := by
  obtain ⟨_, hr, _⟩ := h; exact hr.code
theorem RI.ext {g : Nat} {c : CodeV} {kv iv bv : Value} {cs : List Int} {S : List Nat} {w w' : World} (h : RI g c kv iv bv cs S w) (hx : Ext w w') : RI g c kv iv bv cs S w' := h.kb (T := []) (Kb.of_ext hx) (by simp) (h.code.ext hx)
def RTickI (g : Nat) (c : CodeV) (kv iv bv : Value) (r : TickV) (S : List Nat) (w : World) (e : Ending) (w' : World) : Prop :=
  ∃ (v : Value) (S' : List Nat), e = .returned (.tuple #[v, .int .i64 r.n, .int .i64 r.err]) ∧ RI g c kv iv bv r.cells S' w' ∧ Kb [g] w w' ∧ (∀ k ∈ S', k ∈ S ∨ w.heap.size ≤ k) ∧ w'.ownsRow w.heap.size 3 1 v r.outs.length (i64s r.outs)
theorem rtick {g : Nat} {c : CodeV} {kv iv bv insv : Value} {cs ins : List Int} {S : List Nat} {w : World} (hg : GoodC c) (h : RI g c kv iv bv cs S w) (hins : SlC w insv ins.length (i64s ins)) (hI : ∀ x ∈ ins, I64 x) :
    Calls Try.prog 31 #[.pointer (some ⟨g, 0, none⟩), insv] w (RTickI g c kv iv bv (tickV c cs ins) S w) := by
  obtain ⟨G, hbl, hkl, hst, fin, F⟩ := chk_fin hg.chk
  obtain ⟨lv, hr, hgS, hlS, hSz, hc⟩ := id h
  have hin := G.sum
  have ho := G.outs
  have hce := G.cells
  by_cases h1 : (ins.length : Int) ≠ c.ins
  · refine (rtick_count hr hins h1).mono ?_
    rintro e w1 ⟨rfl, hx⟩
    unfold tickV
    rw [if_pos h1]
    exact ⟨_, S, rfl, h.ext hx, Kb.of_ext hx, fun k hk => .inl hk, own_nil _ _ _ _⟩
  · have hl : (ins.length : Int) = c.ins := by omega
    by_cases h2 : insOk c ins = false
    · refine (rtick_arg hr hins hl (by omega) hkl h2).mono ?_
      rintro e w1 ⟨rfl, hx⟩
      unfold tickV
      rw [if_neg h1, if_pos h2]
      exact ⟨_, S, rfl, h.ext hx, Kb.of_ext hx, fun k hk => .inl hk, own_nil _ _ _ _⟩
    · have hT := tick_kinds hg hc hI
      refine (rtick_good hr hins G hbl hkl hst F hg.ints hI hl (by simpa using h2) hc).mono ?_
      rintro e w1 ⟨v, lv', rfl, hv, hr', hlb, hk⟩
      have he : (tickV c cs ins).err = 0 := by unfold tickV; rw [if_neg h1, if_neg h2]
      refine ⟨v, S ++ lv'.ownBlock.toList, by rw [he], ⟨lv', hr', List.mem_append_left _ hgS, fun b hb => List.mem_append_right _ (Option.mem_toList.2 hb), ?_, hT.1⟩, hk, ?_, hv⟩
      · intro k hk'
        rcases List.mem_append.1 hk' with e | e
        · exact Nat.lt_of_lt_of_le (hSz k e) hk.size
        · exact (hlb k (Option.mem_toList.1 e)).2
      · intro k hk'
        rcases List.mem_append.1 hk' with e | e
        · exact .inl e
        · exact .inr (hlb k (Option.mem_toList.1 e)).1
end Go.Proofs.Ytipfcfaigbeakaa

namespace Go.Proofs.Ytipfcfaigbeakaa
open Go.RowKit
set_option linter.unusedSimpArgs false
set_option linter.unusedVariables false
set_option maxRecDepth 100000

theorem good_small : GoodC smallV := ⟨chk_small, by simp [I64]⟩
theorem cells_small : CellsOk smallV [] := ⟨by decide, fun j k v h => by simp at h⟩
theorem TickV.of {t : TickV} {a : Int} {o : List Int} {n : Nat} {cs : List Int} (h : t.err = a ∧ t.outs = o ∧ t.n = n ∧ t.cells = cs) : t = ⟨a, o, n, cs⟩ := by
  cases t; simp at h; obtain ⟨rfl, rfl, rfl, rfl⟩ := h; rfl
theorem tick_five : tickV smallV [] [5] = ⟨0, [6], 5, []⟩ := TickV.of (by decide +kernel)
theorem tick_high : tickV smallV [] [127] = ⟨0, [-128], 5, []⟩ := TickV.of (by decide +kernel)
theorem tick_none : tickV smallV [] [] = ⟨23, [], 0, []⟩ := TickV.of (by decide +kernel)
theorem tick_two (x y : Int) : tickV smallV [] [x, y] = ⟨23, [], 0, []⟩ := rfl
theorem isk_two {x : Int} : isk 2 x = true ↔ -128 ≤ x ∧ x ≤ 127 := by
  have e : isk 2 x = (wrap64 (IntKind.i8.wrap x) == x) := by
    unfold isk wkr width; simp
  rw [e, beq_iff_eq]
  have h8 : IntKind.i8.wrap x = (x + 128) % 256 - 128 := by
    simp only [IntKind.wrap, IntKind.signed, IntKind.bits]
    simp
    omega
  rw [h8, wrap64_id (by omega) (by omega)]
  omega
theorem tick_bad {x : Int} (h : ¬ (-128 ≤ x ∧ x ≤ 127)) : tickV smallV [] [x] = ⟨1, [], 0, []⟩ := by
  have e : isk 2 x = false := by cases e : isk 2 x with | false => rfl | true => exact absurd (isk_two.1 e) h
  have e2 : insOk smallV [x] = false := by
    unfold insOk
    simp [List.range_succ, smallV, e]
  unfold tickV
  rw [if_neg (by simp), if_pos e2]
theorem tick_ok {x : Int} (h : -128 ≤ x ∧ x ≤ 127) : tickV smallV [] [x] = ⟨0, [IntKind.i64.wrap (IntKind.i8.wrap (wrap64 (x + 1)))], 5, []⟩ := by
  have all : ∀ j : _root_.Fin 256, (tickV smallV [] [(j.val : Int) - 128]).err = 0 ∧ (tickV smallV [] [(j.val : Int) - 128]).outs = [IntKind.i64.wrap (IntKind.i8.wrap (wrap64 ((j.val : Int) - 128 + 1)))] ∧ (tickV smallV [] [(j.val : Int) - 128]).n = 5 ∧ (tickV smallV [] [(j.val : Int) - 128]).cells = [] := by decide +kernel
  have hj := all ⟨(x + 128).toNat, by omega⟩
  have e : (((⟨(x + 128).toNat, by omega⟩ : _root_.Fin 256).val : Nat) : Int) - 128 = x := by show (((x + 128).toNat : Nat) : Int) - 128 = x; omega
  rw [e] at hj
  exact TickV.of hj
theorem num21_any (n : Int) (w : World) : Calls Try.prog 32 #[.int .i64 n] w fun e w' => e = .returned (.int .i64 n) ∧ w = w' := by
  go_enter Try.func32, Try.ntmps32
  go_wp2
  go_ret
  exact ⟨rfl, rfl⟩
theorem own_one {w : World} {B : Nat} {v : Value} {x : Int} (h : w.ownsRow B 3 1 v 1 (i64s [x])) : ∃ b cap, v = .slice (some ⟨b, 0, none⟩) 1 cap ∧ 1 ≤ cap ∧ cap ≤ maxLen ∧ w.cell? ⟨b, 0, none⟩ = some (.int .i64 x) := by
  obtain ⟨g, cap, rfl, hb, hnc, hg⟩ := ownsRow_some h (by decide)
  obtain ⟨a, cap', e1, h1, h2, h3⟩ := SlC.of_owns h
  simp only [Value.slice.injEq] at e1
  obtain ⟨rfl, -, rfl⟩ := e1
  obtain ⟨b, o, e2, hc⟩ := h3 0 (.int .i64 x) rfl
  simp only [Option.some.injEq, Addr.mk.injEq] at e2
  obtain ⟨rfl, rfl, -⟩ := e2
  exact ⟨g, cap, rfl, h1, h2, hc⟩
/-- A tick of the example by a literal. -/
theorem stick {ins : List Int} {r : TickV} (hr : tickV smallV [] ins = r) (hx : ∀ x ∈ ins, I64 x) (hl : ins.length ≤ 2) {g B : Nat} {S : List Nat} {w : World} (h : MI g B smallV [] S w) :
    Calls Try.prog 30 #[.pointer (some ⟨g, 0, none⟩), .slice (some ⟨w.heap.size, 0, none⟩) ins.length ins.length] (w.alloc (.cells (i64s ins).toArray 3)) (TickI g B smallV r S (w.alloc (.cells (i64s ins).toArray 3))) := by
  subst hr
  exact mtick good_small (h.ext ((Ext.refl w).alloc _)) (SlC.of_block (heap_alloc_last w _) ins.length ins.length _ (Nat.le_refl _) (Nat.le_trans hl (by decide)) rfl) hx (fun _ k hk e => by
    have := (h.lt k hk).2
    simp [Value.ownBlock] at e
    omega)
/-- A tick of the example that tells one number. -/
def Stick1 (g B : Nat) (S : List Nat) (y n er : Int) (w : World) (e : Ending) (w' : World) : Prop :=
  ∃ (b cap : Nat) (S' : List Nat), e = .returned (.tuple #[.slice (some ⟨b, 0, none⟩) 1 cap, .int .i64 n, .int .i64 er]) ∧ 1 ≤ cap ∧ cap ≤ maxLen ∧ MI g B smallV [] S' w' ∧ Kb S w w' ∧ w'.cell? ⟨b, 0, none⟩ = some (.int .i64 y) ∧ b ∉ S'
/-- A tick of the example that tells none. -/
def Stick0 (g B : Nat) (S : List Nat) (er : Int) (w : World) (e : Ending) (w' : World) : Prop :=
  ∃ (a : Option Addr) (cap : Nat) (S' : List Nat), e = .returned (.tuple #[.slice a 0 cap, .int .i64 0, .int .i64 er]) ∧ MI g B smallV [] S' w' ∧ Kb S w w'
theorem TickI.one {g B n : Nat} {S : List Nat} {y er ni : Int} {w w' : World} {e : Ending} (h : TickI g B smallV ⟨er, [y], n, []⟩ S w e w') (hn : (n : Int) = ni) : Stick1 g B S y ni er w e w' := by
  obtain ⟨va, S3, base3, rfl, hmi3, hk3, hS3, hb3, hown3, hv3⟩ := h
  obtain ⟨ba, ca, e1, hca1, hca2, hcell3⟩ := own_one hown3
  subst e1
  subst hn
  exact ⟨ba, ca, S3, rfl, hca1, hca2, hmi3, hk3, hcell3, hv3 ba rfl⟩
theorem TickI.zero {g B : Nat} {S : List Nat} {er : Int} {w w' : World} {e : Ending} (h : TickI g B smallV ⟨er, [], 0, []⟩ S w e w') : Stick0 g B S er w e w' := by
  obtain ⟨va, S3, base3, rfl, hmi3, hk3, hS3, hb3, hown3, hv3⟩ := h
  obtain ⟨a1, a2, rfl, -⟩ := SlC.of_owns hown3
  exact ⟨a1, a2, S3, rfl, hmi3, hk3⟩
theorem stick_one {x y er ni : Int} {n : Nat} (hr : tickV smallV [] [x] = ⟨er, [y], n, []⟩) (hn : (n : Int) = ni) (hx : I64 x) {g B : Nat} {S : List Nat} {w : World} (h : MI g B smallV [] S w) :
    Calls Try.prog 30 #[.pointer (some ⟨g, 0, none⟩), .slice (some ⟨w.heap.size, 0, none⟩) 1 1] (w.alloc (.cells #[.int .i64 x] 3)) (Stick1 g B S y ni er (w.alloc (.cells #[.int .i64 x] 3))) :=
  (stick (ins := [x]) hr (fun y hy => by rw [List.mem_singleton.1 hy]; exact hx) (by simp) h).mono fun _ _ h => h.one hn
theorem stick_zero {x er : Int} (hr : tickV smallV [] [x] = ⟨er, [], 0, []⟩) (hx : I64 x) {g B : Nat} {S : List Nat} {w : World} (h : MI g B smallV [] S w) :
    Calls Try.prog 30 #[.pointer (some ⟨g, 0, none⟩), .slice (some ⟨w.heap.size, 0, none⟩) 1 1] (w.alloc (.cells #[.int .i64 x] 3)) (Stick0 g B S er (w.alloc (.cells #[.int .i64 x] 3))) :=
  (stick (ins := [x]) hr (fun y hy => by rw [List.mem_singleton.1 hy]; exact hx) (by simp) h).mono fun _ _ h => h.zero
theorem stick_two {x y : Int} (hx : ∀ n ∈ [x, y], I64 n) {g B : Nat} {S : List Nat} {w : World} (h : MI g B smallV [] S w) :
    Calls Try.prog 30 #[.pointer (some ⟨g, 0, none⟩), .slice (some ⟨w.heap.size, 0, none⟩) 2 2] (w.alloc (.cells #[.int .i64 x, .int .i64 y] 3)) (Stick0 g B S 23 (w.alloc (.cells #[.int .i64 x, .int .i64 y] 3))) :=
  (stick (ins := [x, y]) (tick_two x y) hx (by simp) h).mono fun _ _ h => h.zero
theorem stick_nil {g B : Nat} {S : List Nat} {w : World} (h : MI g B smallV [] S w) :
    Calls Try.prog 30 #[.pointer (some ⟨g, 0, none⟩), .slice none 0 0] w (Stick0 g B S 23 w) := by
  have h2 := mtick (ins := []) good_small h (SlC.nil w) (by simp) (fun e => absurd rfl e)
  rw [tick_none] at h2
  exact h2.mono fun _ _ h => h.zero
theorem I64.one {x : Int} (h : I64 x) : ∀ y ∈ [x], I64 y := fun y hy => by rw [List.mem_singleton.1 hy]; exact h
set_option maxHeartbeats 2000000 in
theorem live21 (w : World) : Calls Try.prog 26 #[] w fun e w' => e = .returned (.bool true) ∧ Ext w w' := by
  have h5 : I64 5 := ⟨by omega, by omega⟩
  have h7 : I64 127 := ⟨by omega, by omega⟩
  go_enter Try.func26, Try.ntmps26
  go_upto_region 2 with (first | (go_at_call 20; refine (small_any w).mono ?_; rintro e w1 ⟨rfl, hx1, hs1, ha1⟩) | (go_at_call 28; refine (new_good smallV _ _ _ w1 ha1.code chk_small).mono ?_; intro e w2 hm; obtain ⟨g, S, rfl, hmi, hx2⟩ := hm.mi cells_small))
  have hx : Ext w w2 := hx1.trans hx2
  have hB := hx1.size
  have HT5 := Lib.hid (stick_one tick_five (ni := 5) rfl h5 hmi)
  have HMI := Lib.hid hmi
  clear hm ha1 hs1 hx1 hx2 h5 hmi
  go_upto_region 5 with (first | (go_at_call 32; refine (num21_any _ _).mono ?_; rintro e w5 ⟨rfl, rfl⟩) | (go_at_call 30; refine HT5.out.mono ?_; rintro e w3 ⟨ba, ca, S3, rfl, hca1, hca2, hmi3, hk3, hcell3, hv3⟩))
  have hx3 : Ext w w3 := hk3.ext (hx.alloc _) (fun k hk => Nat.le_trans hB (HMI.out.lt k hk).1)
  have HT7 := Lib.hid (stick_one tick_high (ni := 5) rfl h7 hmi3)
  have HM3 := Lib.hid hmi3
  clear h7 hmi3 hk3 hx
  go_upto_region 6 with (go_at_call 30; refine HT7.out.mono ?_; rintro e w4 ⟨bb, cb, S4, rfl, hcb1, hcb2, hmi4, hk4, hcell4, hv4⟩)
  have hx4 : Ext w w4 := hk4.ext (hx3.alloc _) (fun k hk => Nat.le_trans hB (HM3.out.lt k hk).1)
  have hcell3' : w4.cell? ⟨ba, 0, none⟩ = some (.int .i64 6) := hk4.cell hv3 (((Ext.refl w3).alloc _).cell hcell3)
  clear hmi4 hk4 hcell3
  go_wp2_with (first | (go_at_call 32; refine (num21_any _ _).mono ?_; rintro e w5 ⟨rfl, rfl⟩))
  go_ret
  exact ⟨rfl, hx4⟩
end Go.Proofs.Ytipfcfaigbeakaa

namespace Go.Proofs.Ytipfcfaigbeakaa
open Go.RowKit Go.ChangeShapes Go.WideShapes Go.ChangeAt
set_option linter.unusedSimpArgs false
set_option linter.unusedVariables false
set_option maxRecDepth 100000

/-- Rows of numbers in memory: the slice of slices v holds the slices vs, and they the numbers rs. -/
structure RowsIn (w : World) (v : Value) (vs : List Value) (rs : List (List Int)) : Prop where
  top : SlC w v rs.length vs
  len : vs.length = rs.length
  row : ∀ (j : Nat) (x : Value) (r : List Int), vs[j]? = some x → rs[j]? = some r → SlC w x r.length (i64s r)
theorem RowsIn.ext {w w' : World} {v : Value} {vs : List Value} {rs : List (List Int)} (h : RowsIn w v vs rs) (hx : Ext w w') : RowsIn w' v vs rs :=
  ⟨h.top.ext hx, h.len, fun j x r h1 h2 => (h.row j x r h1 h2).ext hx⟩
theorem RowsIn.at {w : World} {v : Value} {vs : List Value} {rs : List (List Int)} (h : RowsIn w v vs rs) {j : Nat} (hj : j < rs.length) : ∃ x r, vs[j]? = some x ∧ rs[j]? = some r ∧ SlC w x r.length (i64s r) := by
  have h1 := List.getElem?_eq_getElem (show j < vs.length by rw [h.len]; exact hj)
  have h2 := List.getElem?_eq_getElem hj
  exact ⟨_, _, h1, h2, h.row j _ _ h1 h2⟩
section
variable {H : Type} {enc : TypeId × Value → H} {W : World} {base : Nat} {sp : Nat → Bool} {held : Bool}
theorem open_rows {base0 : Nat} {r0 : Reach} {v : Value} {d : DataW H} {p : List MemPlace} (hval : Value.okWide Try.prog W r0 base0 51 v) (h : DataW.Trod enc Try.prog W base sp held 51 v d p) :
    ∃ (vs : List Value) (rs : List (List Int)), RowsIn W v vs rs ∧ ∀ r ∈ rs, ∀ n ∈ r, I64 n := by
  obtain ⟨va, vm, vc, rfl⟩ := okWide_slice Try.underlying51 hval
  obtain ⟨fuel, h⟩ := h
  rcases Deep.open_slice1 Try.underlying51 cellsInts h with ⟨e1, -⟩ | ⟨a, len, cap, m, n, V, D, Pl, e1, hb, hl, hcm, hm, -, hel⟩
  · change [Value.slice va vm vc] = _ at e1
    simp only [List.cons.injEq, and_true] at e1
    rw [e1]
    exact ⟨[], [], ⟨⟨none, 0, rfl, Nat.le_refl _, Nat.zero_le _, fun j u hu => by simp at hu⟩, rfl, fun j x r h1 => by simp at h1⟩, fun r hr => by cases hr⟩
  · change [Value.slice va vm vc] = _ at e1
    simp only [List.cons.injEq, and_true] at e1
    rw [e1]
    have hlm : len ≤ m := by rw [hm]; split <;> omega
    have each : ∀ i, i < len → ∃ r : List Int, SlC W (V i) r.length (i64s r) ∧ ∀ n ∈ r, I64 n := fun i hi => by
      obtain ⟨h1, h2⟩ := hel i (by omega)
      obtain ⟨l, hl, hw⟩ := open_numbers Try.underlying22 Try.underlying3 cellsInt h2
      exact ⟨l, hl, fun n hn => lit_I64 (hw n hn)⟩
    have hch : ∃ f : Nat → List Int, ∀ i, i < len → SlC W (V i) (f i).length (i64s (f i)) ∧ ∀ n ∈ f i, I64 n := by
      classical
      exact ⟨fun i => if hi : i < len then Classical.choose (each i hi) else [], fun i hi => by simp only [dif_pos hi]; exact Classical.choose_spec (each i hi)⟩
    obtain ⟨f, hf⟩ := hch
    refine ⟨(List.range len).map V, (List.range len).map f, ⟨?_, by simp, fun j x r h1 h2 => ?_⟩, fun r hr => ?_⟩
    · rw [show ((List.range len).map f).length = len by simp]
      refine slc_at hl hcm fun j u hu => ?_
      have hj : j < len := by have := (List.getElem?_eq_some_iff.1 hu).1; simpa using this
      rw [(hel j (by omega)).1]
      rw [List.getElem?_map, List.getElem?_range hj] at hu
      exact hu
    · have hj : j < len := by have := (List.getElem?_eq_some_iff.1 h1).1; simpa using this
      rw [List.getElem?_map, List.getElem?_range hj] at h1 h2
      simp only [Option.map_some, Option.some.injEq] at h1 h2
      subst h1
      subst h2
      exact (hf j hj).1
    · obtain ⟨i, hi, rfl⟩ := List.mem_map.1 hr
      exact (hf i (List.mem_range.1 hi)).2
end
end Go.Proofs.Ytipfcfaigbeakaa

namespace Go.Proofs.Ytipfcfaigbeakaa
open Go.RowKit
set_option linter.unusedSimpArgs false
set_option linter.unusedVariables false
set_option maxRecDepth 100000

set_option maxHeartbeats 1000000 in
theorem same21_any (l m : List Int) (v1 v2 : Value) (w : World) (h1 : SlC w v1 l.length (i64s l)) (h2 : SlC w v2 m.length (i64s m)) :
    Calls Try.prog 33 #[v1, v2] w fun e w' => e = .returned (.bool (decide (l = m))) ∧ Ext w w' := by
  obtain ⟨r, hr⟩ : ∃ r, r = decide (l = m) := ⟨_, rfl⟩
  rw [← hr]
  obtain ⟨a1, c1, rfl, hn1, hm1, hc1⟩ := h1
  obtain ⟨a2, c2, rfl, hn2, hm2, hc2⟩ := h2
  have H1 := Lib.hid hc1
  have H2 := Lib.hid hc2
  have HR := Lib.hid hr
  clear hc1 hc2 hr
  have hw1 := nat64 hn1 hm1
  have hw2 := nat64 hn2 hm2
  unfold maxLen at hm1 hm2
  by_cases hl : l.length = m.length
  · obtain ⟨n, hn⟩ : ∃ n, n = l.length := ⟨_, rfl⟩
    rw [← hl, ← hn]
    rw [← hn] at hn1 hw1
    rw [← hl, ← hn] at hn2 hw2
    have HN := Lib.hid hn
    have HL := Lib.hid hl
    clear hn hl
    go_enter Try.func33, Try.ntmps33
    go_wp2
    go_loopw [5] (fun i wr => ∃ j : Nat, j ≤ n ∧ i = .int .i64 j ∧ Ext w wr ∧ Hid (∀ k x y : _, k < j → l[k]? = some x → m[k]? = some y → x = y)) (fun i _ => n - (intOf i).toNat)
    case atStart => exact ⟨0, Nat.zero_le _, rfl, Ext.refl _, Lib.hid fun k x y hk => by omega⟩
    case round =>
      obtain ⟨j, hj, rfl, hxr, HA⟩ := hrel
      obtain ⟨t1, rfl⟩ := hxr.tok
      clear hxr
      by_cases hlt : j < n
      · obtain ⟨x, hx⟩ : ∃ x, l[j]? = some x := ⟨_, List.getElem?_eq_getElem (by have := HN.out; omega)⟩
        obtain ⟨y, hy⟩ : ∃ y, m[j]? = some y := ⟨_, List.getElem?_eq_getElem (by have := HN.out; have := HL.out; omega)⟩
        obtain ⟨b, o, rfl, g1⟩ := H1.out j (.int .i64 x) (by simp [hx])
        obtain ⟨b2, o2, rfl, g2⟩ := H2.out j (.int .i64 y) (by simp [hy])
        have z1 : b < w.heap.size := World.block_lt_of_cell? w _ g1
        have z2 : b2 < w.heap.size := World.block_lt_of_cell? w _ g2
        have HX := Lib.hid hx
        have HY := Lib.hid hy
        clear hx hy
        by_cases hxy : x = y
        · have HA' : Hid (∀ k x y : _, k < j + 1 → l[k]? = some x → m[k]? = some y → x = y) := Lib.hid fun k x' y' hk hx' hy' => by
            by_cases hkj : k = j
            · subst hkj; rw [HX.out] at hx'; rw [HY.out] at hy'; rw [← Option.some.inj hx', ← Option.some.inj hy']; exact hxy
            · exact HA.out k x' y' (by omega) hx' hy'
          subst hxy
          go_wp2
          (refine region_drew (by kernel_rfl) (by kernel_rfl) ?_; (repeat (go_big_quiet_step (fail))); refine wpQuiet_nil ?_; rintro _ ⟨nq, rfl⟩)
          go_wp2
          go_roundw
          case rel => exact ⟨j + 1, by omega, by go_num, (by repeat first | exact Ext.refl _ | assumption | refine Ext.drew ?_ | refine Ext.drewN ?_ _ | refine Ext.extBy ?_ _ | refine Ext.alloc ?_ _ | refine Ext.setCell ?_ (by simp; try omega) _ | (refine Ext.trans ?_ (by assumption))), HA'⟩
          case measure => simp [intOf]; omega
        · have hd : (x != y) = true := by simpa using hxy
          have HF : Hid (r = false) := Lib.hid (by rw [HR.out]; exact decide_eq_false fun e => hxy (by have := HX.out; rw [e, HY.out] at this; exact (Option.some.inj this).symm))
          clear hxy
          go_wp2
          (refine region_drew (by kernel_rfl) (by kernel_rfl) ?_; (repeat (go_big_quiet_step (fail))); refine wpQuiet_nil ?_; rintro _ ⟨nq, rfl⟩)
          go_wp2
          go_ret
          exact ⟨ret_bool HF.out.symm, (by repeat first | exact Ext.refl _ | assumption | refine Ext.drew ?_ | refine Ext.drewN ?_ _ | refine Ext.extBy ?_ _ | refine Ext.alloc ?_ _ | refine Ext.setCell ?_ (by simp; try omega) _ | (refine Ext.trans ?_ (by assumption)))⟩
      · have HT : Hid (r = true) := Lib.hid (by
          rw [HR.out]
          refine decide_eq_true (List.ext_getElem? fun k => ?_)
          by_cases hk : k < l.length
          · have hk2 : k < m.length := by rw [← HL.out]; exact hk
            rw [List.getElem?_eq_getElem hk, List.getElem?_eq_getElem hk2, HA.out k _ _ (by have := HN.out; omega) (List.getElem?_eq_getElem hk) (List.getElem?_eq_getElem hk2)]
          · rw [List.getElem?_eq_none (by omega), List.getElem?_eq_none (by have := HL.out; omega)])
        go_wp2
        go_ret
        exact ⟨ret_bool HT.out.symm, (by repeat first | exact Ext.refl _ | assumption | refine Ext.drew ?_ | refine Ext.drewN ?_ _ | refine Ext.extBy ?_ _ | refine Ext.alloc ?_ _ | refine Ext.setCell ?_ (by simp; try omega) _ | (refine Ext.trans ?_ (by assumption)))⟩
  · have HF : Hid (r = false) := Lib.hid (by rw [HR.out]; exact decide_eq_false fun e => hl (by rw [e]))
    have hd : ((l.length : Int) != (m.length : Int)) = true := by simpa using (fun e => hl (by omega))
    clear hl
    go_enter Try.func33, Try.ntmps33
    go_wp2
    go_ret
    exact ⟨ret_bool HF.out.symm, (by repeat first | exact Ext.refl _ | assumption | refine Ext.drew ?_ | refine Ext.drewN ?_ _ | refine Ext.extBy ?_ _ | refine Ext.alloc ?_ _ | refine Ext.setCell ?_ (by simp; try omega) _ | (refine Ext.trans ?_ (by assumption)))⟩
/-- Are ticks too much? -/
def bigR : Int → List (List Int) → Bool
  | k, [] => decide (2000 < k)
  | k, r :: rs => if k ≤ 2000 then bigR (wrap64 (wrap64 (k + 1) + (r.length : Int))) rs else true
theorem bigR_step {k : Int} {rs : List (List Int)} {j : Nat} {r : List Int} (hr : rs[j]? = some r) (hk : k ≤ 2000) : bigR k (rs.drop j) = bigR (wrap64 (wrap64 (k + 1) + (r.length : Int))) (rs.drop (j + 1)) := by
  obtain ⟨hl, e⟩ := List.getElem?_eq_some_iff.1 hr
  rw [List.drop_eq_getElem_cons hl, e, bigR, if_pos hk]
theorem bigR_over {k : Int} {rs : List (List Int)} {j : Nat} (hj : j < rs.length) (hk : ¬ k ≤ 2000) : bigR k (rs.drop j) = true := by
  rw [List.drop_eq_getElem_cons hj, bigR, if_neg hk]
set_option maxHeartbeats 2000000 in
theorem big11_any {v : Value} {vs : List Value} {rs : List (List Int)} {w : World} (h : RowsIn w v vs rs) :
    Calls Try.prog 27 #[v] w fun e w' => e = .returned (.bool (bigR 0 rs)) ∧ Ext w w' := by
  obtain ⟨R, hR⟩ : ∃ R, R = bigR 0 rs := ⟨_, rfl⟩
  rw [← hR]
  have HRR := Lib.hid hR
  have HR := Lib.hid h
  obtain ⟨a, cap, rfl, h1, h2, hc⟩ := id h.top
  have HT := Lib.hid hc
  have hw := nat64 h1 h2
  obtain ⟨n, hn⟩ : ∃ n, n = rs.length := ⟨_, rfl⟩
  rw [← hn] at h1 hw ⊢
  have HN := Lib.hid hn
  unfold maxLen at h2
  clear hn hc h hR
  go_enter Try.func27, Try.ntmps27
  go_wp2
  go_loopw [3, 4] (fun m i wr => ∃ (j : Nat) (k : Int), j ≤ n ∧ m = .int .i64 k ∧ i = .int .i64 j ∧ Ext w wr ∧ Hid (bigR k (rs.drop j) = R)) (fun _ i _ => n - (intOf i).toNat)
  case atStart => exact ⟨0, 0, Nat.zero_le _, rfl, rfl, Ext.refl _, Lib.hid HRR.out.symm⟩
  case round =>
    obtain ⟨j, k, hj, rfl, rfl, hxr, HK⟩ := hrel
    obtain ⟨t1, rfl⟩ := hxr.tok
    clear hxr
    by_cases hlt : j < n
    · obtain ⟨x, r, hx, hr, hs⟩ := HR.out.at (j := j) (by have := HN.out; omega)
      obtain ⟨b, o, rfl, g1⟩ := HT.out j x hx
      obtain ⟨a', cap', rfl, -⟩ := hs
      have HRJ := Lib.hid hr
      have z1 : b < w.heap.size := World.block_lt_of_cell? w _ g1
      clear hx hr
      by_cases hk : k ≤ 2000
      · have HK2 := Lib.hid ((bigR_step HRJ.out hk).symm.trans HK.out)
        go_wp2
        go_roundw
        case rel => exact ⟨j + 1, _, by omega, rfl, by go_num, (by repeat first | exact Ext.refl _ | assumption | refine Ext.drew ?_ | refine Ext.drewN ?_ _ | refine Ext.extBy ?_ _ | refine Ext.alloc ?_ _ | refine Ext.setCell ?_ (by simp; try omega) _ | (refine Ext.trans ?_ (by assumption))), HK2⟩
        case measure => simp [intOf]; omega
      · have HF : Hid (R = true) := Lib.hid (HK.out.symm.trans (bigR_over (by have := HN.out; omega) hk))
        go_wp2
        go_ret
        exact ⟨by rw [HF.out]; rfl, (by repeat first | exact Ext.refl _ | assumption | refine Ext.drew ?_ | refine Ext.drewN ?_ _ | refine Ext.extBy ?_ _ | refine Ext.alloc ?_ _ | refine Ext.setCell ?_ (by simp; try omega) _ | (refine Ext.trans ?_ (by assumption)))⟩
    · have HF : Hid (R = decide (2000 < k)) := Lib.hid (by
        have := HK.out
        rw [List.drop_of_length_le (by have := HN.out; omega)] at this
        exact this.symm)
      go_wp2
      go_ret
      exact ⟨by rw [HF.out]; rfl, (by repeat first | exact Ext.refl _ | assumption | refine Ext.drew ?_ | refine Ext.drewN ?_ _ | refine Ext.extBy ?_ _ | refine Ext.alloc ?_ _ | refine Ext.setCell ?_ (by simp; try omega) _ | (refine Ext.trans ?_ (by assumption)))⟩
end Go.Proofs.Ytipfcfaigbeakaa

namespace Go.Proofs.Ytipfcfaigbeakaa
open Go.RowKit
set_option linter.unusedSimpArgs false
set_option linter.unusedVariables false
set_option maxRecDepth 100000

/-- A row that an append made is a slice of that many. -/
theorem own_n {w : World} {B n s : Nat} {e : TypeId} {v : Value} {xs : List Value} (h : w.ownsRow B e s v n xs) : ∃ a cap, v = .slice a n cap := by
  rcases h.2 with ⟨e1, e2⟩ | ⟨g, cap, cur, e1, -⟩
  · subst e2; exact ⟨_, _, e1⟩
  · exact ⟨_, _, e1⟩
theorem RefMade.ri {w w' : World} {c : CodeV} {kv iv bv : Value} {e : Ending} (h : RefMade w c kv iv bv e w') (hc : CodeIn w kv iv bv c) (hi : CellsOk c c.init) :
    ∃ g S, e = .returned (.pointer (some ⟨g, 0, none⟩)) ∧ RI g c kv iv bv c.init S w' ∧ (∀ k ∈ S, w.heap.size ≤ k) ∧ Ext w w' := by
  obtain ⟨g, lv, rfl, hg, hb, hl, hn, hx⟩ := h
  have low : ∀ {v : Value} {n : Nat} {cs : List Value}, SlC w v n cs → cs ≠ [] → v.ownBlock ≠ some g := fun hs hne e => by
    have := hs.lt hne g e; omega
  refine ⟨g, g :: lv.ownBlock.toList, rfl, ⟨lv, ⟨hb, hc.ext hx, SlC.of_owns hl, fun hne => low hc.kinds (by simpa using hne), fun hne => low hc.init (by simpa using hne), fun hne => low hc.body (by
    intro e
    have := congrArg List.length e
    rw [insCells_len] at this
    simp at this
    exact hne (List.eq_nil_of_length_eq_zero (by omega)))⟩, by simp, fun b hb => List.mem_cons.2 (.inr (Option.mem_toList.2 hb)), ?_, hi⟩, ?_, hx⟩
  · intro k hk
    rcases List.mem_cons.1 hk with e | e
    · rw [e]; exact hb.lt
    · exact (hl.lt k (Option.mem_toList.1 e)).2
  · intro k hk
    rcases List.mem_cons.1 hk with e | e
    · rw [e]; exact hg
    · exact (hl.lt k (Option.mem_toList.1 e)).1
theorem RI.lt {g : Nat} {c : CodeV} {kv iv bv : Value} {cs : List Int} {S : List Nat} {w : World} (h : RI g c kv iv bv cs S w) : g ∈ S ∧ ∀ k ∈ S, k < w.heap.size := by
  obtain ⟨_, _, hg, _, hS, _⟩ := h; exact ⟨hg, hS⟩
theorem RI.cok {g : Nat} {c : CodeV} {kv iv bv : Value} {cs : List Int} {S : List Nat} {w : World} (h : RI g c kv iv bv cs S w) : CellsOk c cs := by
  obtain ⟨_, _, _, _, _, hc⟩ := h; exact hc
theorem MI.cok {g B : Nat} {c : CodeV} {cs : List Int} {S : List Nat} {w : World} (h : MI g B c cs S w) : CellsOk c cs := by
  obtain ⟨_, _, _, _, _, _, _, _, _, _, _, _, _, _, hc⟩ := h; exact hc
/-- Both machines at rest, with nothing in common; W: what was there before. -/
structure Duo (W : World) (c : CodeV) (kv iv bv : Value) (g1 B1 g3 : Nat) (cs1 cs3 : List Int) (S1 S3 : List Nat) (w : World) : Prop where
  m : MI g1 B1 c cs1 S1 w
  r : RI g3 c kv iv bv cs3 S3 w
  b1 : W.heap.size ≤ B1
  b3 : ∀ k ∈ S3, W.heap.size ≤ k
  d13 : ∀ k ∈ S1, k ∉ S3
  ext : Ext W w
section
variable {W w w' : World} {c : CodeV} {kv iv bv : Value} {g1 B1 g2 B2 g3 : Nat} {cs1 cs2 cs3 : List Int} {S1 S2 S3 : List Nat}
theorem Duo.more (h : Duo W c kv iv bv g1 B1 g3 cs1 cs3 S1 S3 w) (hx : Ext w w') : Duo W c kv iv bv g1 B1 g3 cs1 cs3 S1 S3 w' :=
  ⟨h.m.ext hx, h.r.ext hx, h.b1, h.b3, h.d13, h.ext.trans hx⟩
theorem Duo.code (h : Duo W c kv iv bv g1 B1 g3 cs1 cs3 S1 S3 w) : CodeIn w kv iv bv c := h.r.code
/-- Other blocks are written. -/
theorem Duo.kb (h : Duo W c kv iv bv g1 B1 g3 cs1 cs3 S1 S3 w) (hc : CodeIn W kv iv bv c) {T : List Nat} (hk : Kb T w w') (hT : ∀ k ∈ T, W.heap.size ≤ k ∧ k ∉ S1 ∧ k ∉ S3) : Duo W c kv iv bv g1 B1 g3 cs1 cs3 S1 S3 w' := by
  have hx := hk.ext h.ext (fun k hk' => (hT k hk').1)
  exact ⟨h.m.kb hk (fun k hk1 hk2 => (hT k hk2).2.1 hk1), h.r.kb hk (fun k hk1 hk2 => (hT k hk2).2.2 hk1) (hc.ext hx), h.b1, h.b3, h.d13, hx⟩
/-- What a tick of the machine leaves. -/
def Tick1 (W : World) (c : CodeV) (kv iv bv : Value) (g1 B1 g3 : Nat) (r : TickV) (cs3 : List Int) (S1 S3 : List Nat) (w : World) (e : Ending) (w' : World) : Prop :=
  ∃ (v : Value) (S1' : List Nat) (base : Nat), e = .returned (.tuple #[v, .int .i64 r.n, .int .i64 r.err]) ∧ Duo W c kv iv bv g1 B1 g3 r.cells cs3 S1' S3 w' ∧ Kb S1 w w' ∧ (∀ k ∈ S1', k ∈ S1 ∨ w.heap.size ≤ k) ∧ w.heap.size ≤ base ∧ w'.ownsRow base 3 1 v r.outs.length (i64s r.outs) ∧ ∀ b, v.ownBlock = some b → b ∉ S1'
theorem Duo.tick1 (hg : GoodC c) (h : Duo W c kv iv bv g1 B1 g3 cs1 cs3 S1 S3 w) (hc : CodeIn W kv iv bv c) {insv : Value} {ins : List Int} (hins : SlC w insv ins.length (i64s ins)) (hI : ∀ x ∈ ins, I64 x) (hS : ins ≠ [] → ∀ k ∈ S1, insv.ownBlock ≠ some k) :
    Calls Try.prog 30 #[.pointer (some ⟨g1, 0, none⟩), insv] w (Tick1 W c kv iv bv g1 B1 g3 (tickV c cs1 ins) cs3 S1 S3 w) := by
  refine (mtick hg h.m hins hI hS).mono ?_
  rintro e w5 ⟨v, S1', base, rfl, hm, hk, hS', hb, hown, hv⟩
  have hx := hk.ext h.ext (fun k hk1 => Nat.le_trans h.b1 (h.m.lt k hk1).1)
  refine ⟨v, S1', base, rfl, ⟨hm, h.r.kb hk (fun k h3 h1 => h.d13 k h1 h3) (hc.ext hx), h.b1, h.b3, fun k hk1 hk3 => ?_, hx⟩, hk, hS', hb, hown, hv⟩
  rcases hS' k hk1 with e | e
  · exact h.d13 k e hk3
  · have := h.r.lt.2 k hk3; omega
/-- What a tick of the document's machine leaves. -/
def Tick3 (W : World) (c : CodeV) (kv iv bv : Value) (g1 B1 g3 : Nat) (cs1 : List Int) (r : TickV) (S1 S3 : List Nat) (w : World) (e : Ending) (w' : World) : Prop :=
  ∃ (v : Value) (S3' : List Nat), e = .returned (.tuple #[v, .int .i64 r.n, .int .i64 r.err]) ∧ Duo W c kv iv bv g1 B1 g3 cs1 r.cells S1 S3' w' ∧ Kb [g3] w w' ∧ (∀ k ∈ S3', k ∈ S3 ∨ w.heap.size ≤ k) ∧ SlC w' v r.outs.length (i64s r.outs)
theorem Duo.tick3 (hg : GoodC c) (h : Duo W c kv iv bv g1 B1 g3 cs1 cs3 S1 S3 w) {insv : Value} {ins : List Int} (hins : SlC w insv ins.length (i64s ins)) (hI : ∀ x ∈ ins, I64 x) :
    Calls Try.prog 31 #[.pointer (some ⟨g3, 0, none⟩), insv] w (Tick3 W c kv iv bv g1 B1 g3 cs1 (tickV c cs3 ins) S1 S3 w) := by
  refine (rtick hg h.r hins hI).mono ?_
  rintro e w5 ⟨v, S3', rfl, hr, hk, hS', hv⟩
  have hg3 := h.r.lt.1
  refine ⟨v, S3', rfl, ⟨h.m.kb hk (fun k h1 h3 => by rw [List.mem_singleton.1 h3] at h1; exact h.d13 _ h1 hg3), hr, h.b1, fun k hk3 => ?_, fun k hk1 hk3 => ?_, hk.ext h.ext (fun k hk1 => by rw [List.mem_singleton.1 hk1]; exact h.b3 _ hg3)⟩, hk, hS', SlC.of_owns hv⟩
  · rcases hS' k hk3 with e | e
    · exact h.b3 k e
    · exact Nat.le_trans h.ext.size e
  · rcases hS' k hk3 with e | e
    · exact h.d13 k hk1 e
    · have := (h.m.lt k hk1).2; omega
/-- A second machine beside both. -/
structure Tri (W : World) (c : CodeV) (kv iv bv : Value) (g1 B1 g2 B2 g3 : Nat) (cs1 cs2 cs3 : List Int) (S1 S2 S3 : List Nat) (w : World) : Prop where
  duo : Duo W c kv iv bv g1 B1 g3 cs1 cs3 S1 S3 w
  o : MI g2 B2 c cs2 S2 w
  b2 : W.heap.size ≤ B2
  d12 : ∀ k ∈ S1, k ∉ S2
  d23 : ∀ k ∈ S2, k ∉ S3
theorem Tri.more (h : Tri W c kv iv bv g1 B1 g2 B2 g3 cs1 cs2 cs3 S1 S2 S3 w) (hx : Ext w w') : Tri W c kv iv bv g1 B1 g2 B2 g3 cs1 cs2 cs3 S1 S2 S3 w' :=
  ⟨h.duo.more hx, h.o.ext hx, h.b2, h.d12, h.d23⟩
def Tri1 (W : World) (c : CodeV) (kv iv bv : Value) (g1 B1 g2 B2 g3 : Nat) (r : TickV) (cs2 cs3 : List Int) (S2 S3 : List Nat) (w : World) (e : Ending) (w' : World) : Prop :=
  ∃ (v : Value) (S1' : List Nat) (base : Nat), e = .returned (.tuple #[v, .int .i64 r.n, .int .i64 r.err]) ∧ Tri W c kv iv bv g1 B1 g2 B2 g3 r.cells cs2 cs3 S1' S2 S3 w' ∧ w.heap.size ≤ base ∧ w'.ownsRow base 3 1 v r.outs.length (i64s r.outs)
theorem Tri.tick1 (hg : GoodC c) (h : Tri W c kv iv bv g1 B1 g2 B2 g3 cs1 cs2 cs3 S1 S2 S3 w) (hc : CodeIn W kv iv bv c) {insv : Value} {ins : List Int} (hins : SlC W insv ins.length (i64s ins)) (hI : ∀ x ∈ ins, I64 x) :
    Calls Try.prog 30 #[.pointer (some ⟨g1, 0, none⟩), insv] w (Tri1 W c kv iv bv g1 B1 g2 B2 g3 (tickV c cs1 ins) cs2 cs3 S2 S3 w) := by
  refine (h.duo.tick1 hg hc (hins.ext h.duo.ext) hI (fun hne k hk e => by
    have := hins.lt (by simpa using hne) k e
    have := (h.duo.m.lt k hk).1
    have := h.duo.b1
    omega)).mono ?_
  rintro e w5 ⟨v, S1', base, rfl, hd, hk, hS', hb, hown, hv⟩
  refine ⟨v, S1', base, rfl, ⟨hd, h.o.kb hk (fun k h2 h1 => h.d12 k h1 h2), h.b2, fun k h1 h2 => ?_, h.d23⟩, hb, hown⟩
  rcases hS' k h1 with e | e
  · exact h.d12 k e h2
  · have := (h.o.lt k h2).2; omega
def Tri2 (W : World) (c : CodeV) (kv iv bv : Value) (g1 B1 g2 B2 g3 : Nat) (cs1 : List Int) (r : TickV) (cs3 : List Int) (S1 S3 : List Nat) (e : Ending) (w' : World) : Prop :=
  ∃ (v : Value) (S2' : List Nat), e = .returned (.tuple #[v, .int .i64 r.n, .int .i64 r.err]) ∧ Tri W c kv iv bv g1 B1 g2 B2 g3 cs1 r.cells cs3 S1 S2' S3 w' ∧ ∃ a n cap, v = .slice a n cap
theorem Tri.tick2 (hg : GoodC c) (h : Tri W c kv iv bv g1 B1 g2 B2 g3 cs1 cs2 cs3 S1 S2 S3 w) (hc : CodeIn W kv iv bv c) {insv : Value} {ins : List Int} (hins : SlC W insv ins.length (i64s ins)) (hI : ∀ x ∈ ins, I64 x) :
    Calls Try.prog 30 #[.pointer (some ⟨g2, 0, none⟩), insv] w (Tri2 W c kv iv bv g1 B1 g2 B2 g3 cs1 (tickV c cs2 ins) cs3 S1 S3) := by
  refine (mtick hg h.o (hins.ext h.duo.ext) hI (fun hne k hk e => by
    have := hins.lt (by simpa using hne) k e
    have := (h.o.lt k hk).1
    have := h.b2
    omega)).mono ?_
  rintro e w5 ⟨v, S2', base, rfl, hm, hk, hS', hb, hown, hv⟩
  obtain ⟨a1, a2, a3, rfl⟩ := own_slice3 hown
  refine ⟨_, S2', rfl, ⟨h.duo.kb hc hk (fun k hk2 => ⟨Nat.le_trans h.b2 (h.o.lt k hk2).1, fun h1 => h.d12 k h1 hk2, h.d23 k hk2⟩), hm, h.b2, fun k h1 h2 => ?_, fun k h2 h3 => ?_⟩, ⟨_, _, _, rfl⟩⟩
  · rcases hS' k h2 with e | e
    · exact h.d12 k h1 e
    · have := (h.duo.m.lt k h1).2; omega
  · rcases hS' k h2 with e | e
    · exact h.d23 k e h3
    · have := h.duo.r.lt.2 k h3; omega
def Tri3 (W : World) (c : CodeV) (kv iv bv : Value) (g1 B1 g2 B2 g3 : Nat) (cs1 cs2 : List Int) (r : TickV) (S1 S2 : List Nat) (w : World) (e : Ending) (w' : World) : Prop :=
  ∃ (v : Value) (S3' : List Nat), e = .returned (.tuple #[v, .int .i64 r.n, .int .i64 r.err]) ∧ Tri W c kv iv bv g1 B1 g2 B2 g3 cs1 cs2 r.cells S1 S2 S3' w' ∧ Kb [g3] w w' ∧ SlC w' v r.outs.length (i64s r.outs)
theorem Tri.tick3 (hg : GoodC c) (h : Tri W c kv iv bv g1 B1 g2 B2 g3 cs1 cs2 cs3 S1 S2 S3 w) {insv : Value} {ins : List Int} (hins : SlC W insv ins.length (i64s ins)) (hI : ∀ x ∈ ins, I64 x) :
    Calls Try.prog 31 #[.pointer (some ⟨g3, 0, none⟩), insv] w (Tri3 W c kv iv bv g1 B1 g2 B2 g3 cs1 cs2 (tickV c cs3 ins) S1 S2 w) := by
  refine (h.duo.tick3 hg (hins.ext h.duo.ext) hI).mono ?_
  rintro e w5 ⟨v, S3', rfl, hd, hk, hS', hv⟩
  refine ⟨v, S3', rfl, ⟨hd, h.o.kb hk (fun k h2 h3 => by rw [List.mem_singleton.1 h3] at h2; exact h.d23 _ h2 h.duo.r.lt.1), h.b2, h.d12, fun k h2 h3 => ?_⟩, hk, hv⟩
  rcases hS' k h3 with e | e
  · exact h.d23 k h2 e
  · have := (h.o.lt k h2).2; omega
end
end Go.Proofs.Ytipfcfaigbeakaa

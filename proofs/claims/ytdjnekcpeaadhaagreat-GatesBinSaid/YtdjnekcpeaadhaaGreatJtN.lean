/-
  What wires tell: the plain law of gates.
  No condition.
  What wires tell ar numbers: sums, differences, opposites.
  No condition.
  What wires tell ar numbers: products and quotients.
  No condition.
  What wires tell ar numbers: quotients with signs, comparisons, bits.
  No condition.
  What wires tell ar numbers: moves.
  No condition.
  What wires tell as values of a kind.
  No condition.
  What wires tell as values of a kind: quotients, moves, all operations.
  No condition.
  What wires tell as values of a kind: operations on one value, casts; a net from its inputs on.
  No condition.
  The nets that Op and Cast tell, and what they tell of values: plain.
  No condition.
-/
import Derived.Test.YtdjnekcpeaadhaaGreatGtPlain
import Derived.Test.YtdjnekcpeaadhaaGreatJtM
import Derived.Test.YtdjnekcpeaadhaaGreatJtK
import Derived.Test.YtdjnekcpeaadhaaGreatJtL
namespace Go.Proofs.YtdjnekcpeaadhaaGreat

/-- A wire's value. -/
def wv (v : List Bool) (w : Nat) : Bool := v.getD (w / 2) false != (w % 2 == 1)
/-- A gate's value. -/
def gv1 (v ins : List Bool) (g : Gt) : Bool := if g.op = 2 then ins.getD 0 false else if g.op = 3 then (wv v g.a && wv v g.b) else false
def restA (ins : List Bool) (g : Gt) : List Bool := if g.op = 2 then ins.tail else ins
def evA : List Bool → List Bool → List Gt → List Bool
  | v, _, [] => v
  | v, ins, g :: gs => evA (v ++ [gv1 v ins g]) (restA ins g) gs
theorem evA_len : ∀ (gs : List Gt) (v ins : List Bool), (evA v ins gs).length = v.length + gs.length
  | [], _, _ => rfl
  | g :: gs, v, ins => by
    have := evA_len gs (v ++ [gv1 v ins g]) (restA ins g)
    simp only [evA, this, List.length_append, List.length_cons, List.length_nil]
    omega
theorem evA_old : ∀ (gs : List Gt) (v ins : List Bool) (i : Nat), i < v.length → (evA v ins gs).getD i false = v.getD i false
  | [], _, _, _, _ => rfl
  | g :: gs, v, ins, i, h => by
    have := evA_old gs (v ++ [gv1 v ins g]) (restA ins g) i (by simp; omega)
    simp only [evA, this]
    rw [List.getD_eq_getElem?_getD, List.getD_eq_getElem?_getD, List.getElem?_append_left h]
theorem evA_append : ∀ (gs hs : List Gt) (v ins : List Bool), evA v ins (gs ++ hs) = evA (evA v ins gs) (gs.foldl restA ins) hs
  | [], _, _, _ => rfl
  | g :: gs, hs, v, ins => evA_append gs hs (v ++ [gv1 v ins g]) (restA ins g)
/-- The values of a maker's gates. -/
def V (ins : List Bool) (s : BSt) : List Bool := evA [] ins s.gs
theorem V_len (ins : List Bool) (s : BSt) : (V ins s).length = s.gs.length := by unfold V; rw [evA_len]; simp
/-- A maker that has grown by c gates at most, none of them an input. -/
def Gr (s t : BSt) (c : Nat) : Prop := ∃ hs, t.gs = s.gs ++ hs ∧ hs.length ≤ c ∧ ∀ g ∈ hs, g.op ≠ 2
theorem Gr.refl (s : BSt) (c : Nat) : Gr s s c := ⟨[], by simp, Nat.zero_le _, by simp⟩
theorem Gr.trans {s t u : BSt} {c d e : Nat} (h1 : Gr s t c) (h2 : Gr t u d) (h : c + d ≤ e) : Gr s u e := by
  obtain ⟨a, e1, l1, n1⟩ := h1
  obtain ⟨b, e2, l2, n2⟩ := h2
  refine ⟨a ++ b, by rw [e2, e1, List.append_assoc], by rw [List.length_append]; omega, fun g hg => ?_⟩
  rcases List.mem_append.1 hg with e | e
  · exact n1 g e
  · exact n2 g e
theorem Gr.mono {s t : BSt} {c d : Nat} (h1 : Gr s t c) (h : c ≤ d) : Gr s t d := by
  obtain ⟨a, e1, l1, n1⟩ := h1
  exact ⟨a, e1, Nat.le_trans l1 h, n1⟩
theorem Gr.len {s t : BSt} {c : Nat} (h : Gr s t c) : s.gs.length ≤ t.gs.length ∧ t.gs.length ≤ s.gs.length + c := by
  obtain ⟨a, e1, l1, -⟩ := h
  rw [e1, List.length_append]; omega
theorem Gr.old {s t : BSt} {c : Nat} (h : Gr s t c) (ins : List Bool) (w : Nat) (hw : w < 2 * s.gs.length) : wv (V ins t) w = wv (V ins s) w := by
  obtain ⟨a, e1, -, -⟩ := h
  unfold wv V
  rw [e1, evA_append, evA_old _ _ _ _ (by rw [evA_len]; simp; omega)]
/-- A wire and its value. -/
def Wi (ins : List Bool) (s : BSt) (w : Nat) (x : Bool) : Prop := w < 2 * s.gs.length ∧ wv (V ins s) w = x
/-- Wires and their values. -/
def Ws (ins : List Bool) (s : BSt) (l : List Nat) (x : List Bool) : Prop := (∀ w ∈ l, w < 2 * s.gs.length) ∧ l.map (wv (V ins s)) = x
theorem Wi.gr {ins : List Bool} {s t : BSt} {c w : Nat} {x : Bool} (h : Wi ins s w x) (g : Gr s t c) : Wi ins t w x := ⟨by have := g.len; have := h.1; omega, by rw [g.old ins w h.1]; exact h.2⟩
theorem Ws.gr {ins : List Bool} {s t : BSt} {c : Nat} {l : List Nat} {x : List Bool} (h : Ws ins s l x) (g : Gr s t c) : Ws ins t l x :=
  ⟨fun w hw => by have := g.len; have := h.1 w hw; omega, by rw [← h.2]; exact List.map_congr_left fun w hw => g.old ins w (h.1 w hw)⟩
theorem wv_flip (v : List Bool) (w : Nat) : wv v (flip w) = !(wv v w) := by
  unfold wv flip
  split
  · rename_i h
    rw [show (w + 1) / 2 = w / 2 by omega, show (w + 1) % 2 = 1 by omega, h]
    cases v.getD (w / 2) false <;> rfl
  · rw [show (w - 1) / 2 = w / 2 by omega, show (w - 1) % 2 = 0 by omega, show w % 2 = 1 by omega]
    cases v.getD (w / 2) false <;> rfl
theorem flip_lt {w n : Nat} (h : w < 2 * n) : flip w < 2 * n := by unfold flip; split <;> omega
theorem Wi.flip {ins : List Bool} {s : BSt} {w : Nat} {x : Bool} (h : Wi ins s w x) : Wi ins s (flip w) (!x) := ⟨flip_lt h.1, by rw [wv_flip, h.2]⟩
theorem Ws.flip {ins : List Bool} {s : BSt} {l : List Nat} {x : List Bool} (h : Ws ins s l x) : Ws ins s (l.map Go.Proofs.YtdjnekcpeaadhaaGreat.flip) (x.map (!·)) := by
  refine ⟨fun w hw => ?_, ?_⟩
  · obtain ⟨u, hu, rfl⟩ := List.mem_map.1 hw
    exact flip_lt (h.1 u hu)
  · rw [← h.2, List.map_map, List.map_map]
    exact List.map_congr_left fun w _ => wv_flip _ w
theorem Ws.nil (ins : List Bool) (s : BSt) : Ws ins s [] [] := ⟨by simp, rfl⟩
theorem Ws.cons {ins : List Bool} {s : BSt} {l : List Nat} {x : List Bool} {w : Nat} {y : Bool} (h : Wi ins s w y) (h2 : Ws ins s l x) : Ws ins s (w :: l) (y :: x) :=
  ⟨fun u hu => by rcases List.mem_cons.1 hu with rfl | e; exact h.1; exact h2.1 u e, by rw [List.map_cons, h.2, h2.2]⟩
theorem Ws.head {ins : List Bool} {s : BSt} {l : List Nat} {x : List Bool} {w : Nat} {y : Bool} (h : Ws ins s (w :: l) (y :: x)) : Wi ins s w y := ⟨h.1 w (by simp), by have := h.2; rw [List.map_cons] at this; exact (List.cons.inj this).1⟩
theorem Ws.tail {ins : List Bool} {s : BSt} {l : List Nat} {x : List Bool} {w : Nat} {y : Bool} (h : Ws ins s (w :: l) (y :: x)) : Ws ins s l x := ⟨fun u hu => h.1 u (by simp [hu]), by have := h.2; rw [List.map_cons] at this; exact (List.cons.inj this).2⟩
theorem Ws.len {ins : List Bool} {s : BSt} {l : List Nat} {x : List Bool} (h : Ws ins s l x) : l.length = x.length := by rw [← h.2, List.length_map]
theorem Ws.append {ins : List Bool} {s : BSt} {l m : List Nat} {x y : List Bool} (h : Ws ins s l x) (h2 : Ws ins s m y) : Ws ins s (l ++ m) (x ++ y) :=
  ⟨fun u hu => (List.mem_append.1 hu).elim (h.1 u) (h2.1 u), by rw [List.map_append, h.2, h2.2]⟩
theorem Ws.take {ins : List Bool} {s : BSt} {l : List Nat} {x : List Bool} (h : Ws ins s l x) (n : Nat) : Ws ins s (l.take n) (x.take n) := ⟨fun u hu => h.1 u (List.mem_of_mem_take hu), by rw [← h.2, List.map_take]⟩
theorem Ws.drop {ins : List Bool} {s : BSt} {l : List Nat} {x : List Bool} (h : Ws ins s l x) (n : Nat) : Ws ins s (l.drop n) (x.drop n) := ⟨fun u hu => h.1 u (List.mem_of_mem_drop hu), by rw [← h.2, List.map_drop]⟩
theorem Ws.reverse {ins : List Bool} {s : BSt} {l : List Nat} {x : List Bool} (h : Ws ins s l x) : Ws ins s l.reverse x.reverse := ⟨fun u hu => h.1 u (List.mem_reverse.1 hu), by rw [← h.2, List.map_reverse]⟩
theorem Ws.rep {ins : List Bool} {s : BSt} {w : Nat} {x : Bool} (h : Wi ins s w x) (n : Nat) : Ws ins s (List.replicate n w) (List.replicate n x) := ⟨fun u hu => by rw [(List.mem_replicate.1 hu).2]; exact h.1, by rw [List.map_replicate, h.2]⟩
theorem Ws.getD {ins : List Bool} {s : BSt} {l : List Nat} {x : List Bool} (h : Ws ins s l x) (i : Nat) (hi : i < l.length) : Wi ins s (l.getD i 0) (x.getD i false) := by
  rw [List.getD_eq_getElem?_getD, List.getElem?_eq_getElem hi, List.getD_eq_getElem?_getD]
  refine ⟨h.1 _ (List.getElem_mem _), ?_⟩
  rw [← h.2, List.getElem?_map, List.getElem?_eq_getElem hi]
  rfl
/-- A gate that the rules take at a place. -/
def Fair (i : Nat) (g : Gt) : Prop := (g.op = 1 ∨ g.op = 2) ∧ g.a = 0 ∧ g.b = 0 ∨ g.op = 3 ∧ g.a < 2 * i ∧ g.b < 2 * i
/-- What a maker's state tells holds. -/
structure Good (ins : List Bool) (s : BSt) : Prop where
  notfull : s.full = false
  zero : ∀ z, s.zero = some z → Wi ins s z false
  seen : ∀ e ∈ s.seen, e.1.1 < 2 * s.gs.length ∧ e.1.2 < 2 * s.gs.length ∧ Wi ins s e.2 (wv (V ins s) e.1.1 && wv (V ins s) e.1.2)
  fair : ∀ i g, s.gs[i]? = some g → Fair i g
  len : s.gs.length ≤ 200000
/-- What a function tells: a maker that has grown, a wire and its value. -/
structure Rs (ins : List Bool) (s : BSt) (c : Nat) (r : BR) (x : Bool) : Prop where
  good : Good ins r.1
  gr : Gr s r.1 c
  wi : Wi ins r.1 r.2 x
structure Rl (ins : List Bool) (s : BSt) (c : Nat) (r : BL) (x : List Bool) : Prop where
  good : Good ins r.1
  gr : Gr s r.1 c
  ws : Ws ins r.1 r.2 x
theorem V_add (ins : List Bool) (s : BSt) (g : Gt) : evA [] ins (s.gs ++ [g]) = V ins s ++ [gv1 (V ins s) (s.gs.foldl restA ins) g] := by
  rw [evA_append]; rfl
theorem wv_last (v : List Bool) (x : Bool) : wv (v ++ [x]) (2 * v.length) = x := by
  unfold wv
  rw [show 2 * v.length / 2 = v.length by omega, show 2 * v.length % 2 = 0 by omega, List.getD_eq_getElem?_getD]
  simp
theorem gate_law {ins : List Bool} {s : BSt} {g : Gt} (h : Good ins s) (hl : s.gs.length < 200000) (hf : Fair s.gs.length g) (h2 : g.op ≠ 2) :
    Rs ins s 1 (gateF s g) (gv1 (V ins s) [] g) := by
  have e : gateF s g = ({ s with gs := s.gs ++ [g] }, 2 * s.gs.length) := by unfold gateF; rw [if_neg (by omega)]
  rw [e]
  have hg : Gr s { s with gs := s.gs ++ [g] } 1 := ⟨[g], rfl, Nat.le_refl _, fun x hx => by rw [List.mem_singleton.1 hx]; exact h2⟩
  have hV : V ins { s with gs := s.gs ++ [g] } = V ins s ++ [gv1 (V ins s) [] g] := by
    rw [show V ins { s with gs := s.gs ++ [g] } = evA [] ins (s.gs ++ [g]) from rfl, V_add]
    unfold gv1; simp [h2]
  refine ⟨⟨h.notfull, fun z hz => (h.zero z hz).gr hg, fun e he => ?_, fun i x hx => ?_, by simp; omega⟩, hg, by simp, ?_⟩
  · obtain ⟨a1, a2, a3⟩ := h.seen e he
    have a4 := a3.gr hg
    rw [← hg.old ins _ a1, ← hg.old ins _ a2] at a4
    have hl2 := Nat.mul_le_mul_left 2 hg.len.1
    exact ⟨Nat.lt_of_lt_of_le a1 hl2, Nat.lt_of_lt_of_le a2 hl2, a4⟩
  · by_cases hi : i < s.gs.length
    · exact h.fair i x (by rw [← hx, List.getElem?_append_left hi])
    · have hi2 : i = s.gs.length := by
        have := (List.getElem?_eq_some_iff.1 hx).1
        simp at this; omega
      subst hi2
      simp at hx
      subst hx
      exact hf
  · show wv (V ins { s with gs := s.gs ++ [g] }) (2 * s.gs.length) = _
    rw [hV, ← V_len ins s]
    exact wv_last _ _
theorem zero_law {ins : List Bool} {s : BSt} (h : Good ins s) (hl : s.gs.length + 1 ≤ 200000) : Rs ins s 1 (zeroF s) false := by
  unfold zeroF
  split
  · rename_i z hz; exact ⟨h, Gr.refl s 1, h.zero z hz⟩
  · have h1 := gate_law (g := ⟨1, 0, 0⟩) h (by omega) (Or.inl ⟨Or.inl rfl, rfl, rfl⟩) (by simp)
    exact ⟨⟨h1.good.notfull, fun z hz => by simp at hz; subst hz; exact h1.wi, h1.good.seen, h1.good.fair, h1.good.len⟩, h1.gr, h1.wi⟩
theorem const_law {ins : List Bool} {s : BSt} (h : Good ins s) (one : Bool) (hl : s.gs.length + 1 ≤ 200000) : Rs ins s 1 (constF s one) one := by
  have h1 := zero_law h hl
  unfold constF
  refine ⟨h1.good, h1.gr, ?_⟩
  cases one
  · exact h1.wi
  · exact h1.wi.flip
theorem andS_law {ins : List Bool} {s : BSt} {a b : Nat} {x y : Bool} (h : Good ins s) (ha : Wi ins s a x) (hb : Wi ins s b y) (hl : s.gs.length + 1 ≤ 200000) : Rs ins s 1 (andS s a b) (x && y) := by
  unfold andS
  split
  · rename_i w hw
    have h1 := h.seen _ (look_mem hw)
    refine ⟨h, Gr.refl s 1, ?_⟩
    have h2 := h1.2.2
    rw [show wv (V ins s) ((a, b), w).1.1 = x from ha.2, show wv (V ins s) ((a, b), w).1.2 = y from hb.2] at h2
    exact h2
  · have h1 := gate_law (g := ⟨3, a, b⟩) h (by omega) (Or.inr ⟨rfl, ha.1, hb.1⟩) (by simp)
    have hw : Wi ins (gateF s ⟨3, a, b⟩).1 (gateF s ⟨3, a, b⟩).2 (x && y) := by
      have h2 := h1.wi
      unfold gv1 at h2
      simp only [show ¬ (3 : Nat) = 2 by decide, if_false, if_true] at h2
      rw [ha.2, hb.2] at h2
      exact h2
    have ga := ha.gr h1.gr
    have gb := hb.gr h1.gr
    refine ⟨⟨h1.good.notfull, h1.good.zero, fun e he => ?_, h1.good.fair, h1.good.len⟩, h1.gr, hw⟩
    rcases List.mem_cons.1 he with rfl | e1
    · refine ⟨ga.1, gb.1, ?_⟩
      have e2 : wv (V ins (gateF s ⟨3, a, b⟩).1) a = x := ga.2
      have e3 : wv (V ins (gateF s ⟨3, a, b⟩).1) b = y := gb.2
      show Wi ins (gateF s ⟨3, a, b⟩).1 (gateF s ⟨3, a, b⟩).2 (wv (V ins (gateF s ⟨3, a, b⟩).1) a && wv (V ins (gateF s ⟨3, a, b⟩).1) b)
      rw [e2, e3]; exact hw
    · exact h1.good.seen e (by rw [(gateF_seen s ⟨3, a, b⟩).1]; exact e1)
theorem flip_eq {ins : List Bool} {s : BSt} {a b : Nat} {x y : Bool} (ha : Wi ins s a x) (hb : Wi ins s b y) (e : a = flip b) : x = !y := by
  rw [← ha.2, e, wv_flip, hb.2]
theorem andO_law {ins : List Bool} {s : BSt} {a b : Nat} {x y : Bool} (h : Good ins s) (ha : Wi ins s a x) (hb : Wi ins s b y) (hl : s.gs.length + 1 ≤ 200000) : Rs ins s 1 (andO s a b) (x && y) := by
  unfold andO
  split
  · rename_i e
    have : x = y := by rw [← ha.2, e, hb.2]
    subst this
    refine ⟨h, Gr.refl s 1, ?_⟩
    rw [Bool.and_self]; exact ha
  split
  · rename_i e
    have := flip_eq ha hb e
    subst this
    have h1 := zero_law h hl
    refine ⟨h1.good, h1.gr, ?_⟩
    have h2 := h1.wi
    cases y <;> exact h2
  split
  · exact andS_law h ha hb hl
  rename_i z hz
  have hz1 := h.zero z hz
  split
  · rename_i e
    refine ⟨h, Gr.refl s 1, ?_⟩
    have : (x && y) = false := by
      rcases e with e | e
      · rw [← ha.2, e, hz1.2]; rfl
      · rw [← hb.2, e, hz1.2, Bool.and_false]
    rw [this]; exact hz1
  split
  · rename_i e
    have e2 := flip_eq ha hz1 e
    subst e2
    exact ⟨h, Gr.refl s 1, hb⟩
  split
  · rename_i e
    have e2 := flip_eq hb hz1 e
    subst e2
    refine ⟨h, Gr.refl s 1, ?_⟩
    rw [Bool.not_false, Bool.and_true]; exact ha
  · exact andS_law h ha hb hl
theorem and_law {ins : List Bool} {s : BSt} {a b : Nat} {x y : Bool} (h : Good ins s) (ha : Wi ins s a x) (hb : Wi ins s b y) (hl : s.gs.length + 1 ≤ 200000) : Rs ins s 1 (andF s a b) (x && y) := by
  unfold andF
  split
  · rw [Bool.and_comm]; exact andO_law h hb ha hl
  · exact andO_law h ha hb hl
theorem or_law {ins : List Bool} {s : BSt} {a b : Nat} {x y : Bool} (h : Good ins s) (ha : Wi ins s a x) (hb : Wi ins s b y) (hl : s.gs.length + 1 ≤ 200000) : Rs ins s 1 (orF s a b) (x || y) := by
  have h1 := and_law h ha.flip hb.flip hl
  refine ⟨h1.good, h1.gr, ?_⟩
  have h2 := h1.wi.flip
  have e : (!((!x) && (!y))) = (x || y) := by cases x <;> cases y <;> rfl
  rw [e] at h2; exact h2
theorem xor_law {ins : List Bool} {s : BSt} {a b : Nat} {x y : Bool} (h : Good ins s) (ha : Wi ins s a x) (hb : Wi ins s b y) (hl : s.gs.length + 3 ≤ 200000) : Rs ins s 3 (xorF s a b) (x ^^ y) := by
  have p := and_law h ha hb.flip (by omega)
  have l1 := p.gr.len
  have q := and_law p.good (ha.flip.gr p.gr) (hb.gr p.gr) (by omega)
  have l2 := q.gr.len
  have o := or_law q.good (p.wi.gr q.gr) q.wi (by omega)
  refine ⟨o.good, p.gr.trans (q.gr.trans o.gr (Nat.le_refl _)) (Nat.le_refl _), ?_⟩
  have h2 := o.wi
  have e : ((x && !y) || (!x && y)) = (x ^^ y) := by cases x <;> cases y <;> rfl
  rw [e] at h2; exact h2
theorem mux_law {ins : List Bool} {s : BSt} {c a b : Nat} {z x y : Bool} (h : Good ins s) (hc : Wi ins s c z) (ha : Wi ins s a x) (hb : Wi ins s b y) (hl : s.gs.length + 3 ≤ 200000) : Rs ins s 3 (muxF c s a b) (if z then x else y) := by
  unfold muxF
  split
  · rename_i e
    have : x = y := by rw [← ha.2, e, hb.2]
    subst this
    exact ⟨h, Gr.refl s 3, by rw [ite_self]; exact ha⟩
  · have p := and_law h hc ha (by omega)
    have l1 := p.gr.len
    have q := and_law p.good (hc.flip.gr p.gr) (hb.gr p.gr) (by omega)
    have l2 := q.gr.len
    have o := or_law q.good (p.wi.gr q.gr) q.wi (by omega)
    refine ⟨o.good, p.gr.trans (q.gr.trans o.gr (Nat.le_refl _)) (Nat.le_refl _), ?_⟩
    have h2 := o.wi
    have e : ((z && x) || (!z && y)) = (if z then x else y) := by cases z <;> cases x <;> cases y <;> rfl
    rw [e] at h2; exact h2
/-- A function of two wires, its cost and what it tells. -/
def FnLaw (ins : List Bool) (s0 : BSt) (f : BSt → Nat → Nat → BR) (c : Nat) (g : Bool → Bool → Bool) : Prop :=
  ∀ s a b x y d, Gr s0 s d → Good ins s → Wi ins s a x → Wi ins s b y → s.gs.length + c ≤ 200000 → Rs ins s c (f s a b) (g x y)
theorem fn_and (ins : List Bool) (s0 : BSt) : FnLaw ins s0 andF 1 (· && ·) := fun _ _ _ _ _ _ _ h ha hb hl => and_law h ha hb hl
theorem fn_or (ins : List Bool) (s0 : BSt) : FnLaw ins s0 orF 1 (· || ·) := fun _ _ _ _ _ _ _ h ha hb hl => or_law h ha hb hl
theorem fn_xor (ins : List Bool) (s0 : BSt) : FnLaw ins s0 xorF 3 (· ^^ ·) := fun _ _ _ _ _ _ _ h ha hb hl => xor_law h ha hb hl
theorem fn_mux {ins : List Bool} {s0 : BSt} {c : Nat} {z : Bool} (hc : Wi ins s0 c z) : FnLaw ins s0 (muxF c) 3 (fun x y => if z then x else y) := fun _ _ _ _ _ _ hg h ha hb hl => mux_law h (hc.gr hg) ha hb hl
theorem each_law {ins : List Bool} {s0 : BSt} {f : BSt → Nat → Nat → BR} {c : Nat} {g : Bool → Bool → Bool} (hf : FnLaw ins s0 f c g) :
    ∀ (a b : List Nat) (x y : List Bool) (s : BSt) (d : Nat), Gr s0 s d → Good ins s → Ws ins s a x → Ws ins s b y → a.length = b.length → s.gs.length + c * a.length ≤ 200000 → Rl ins s (c * a.length) (eachF f s a b) (List.zipWith g x y)
  | [], _, x, y, s, _, _, h, ha, _, _, _ => by
    have : x = [] := List.length_eq_zero_iff.1 (by rw [← ha.len]; rfl)
    subst this
    exact ⟨h, Gr.refl s _, by simp only [List.zipWith_nil_left, eachF]; exact Ws.nil ins s⟩
  | a :: ar, [], _, _, _, _, _, _, _, _, e, _ => by simp at e
  | a :: ar, b :: bs, x, y, s, d, hg, h, ha, hb, e, hl => by
    match x, y, ha.len, hb.len with
    | [], _, e1, _ => simp at e1
    | _ :: _, [], _, e2 => simp at e2
    | x :: xs, y :: ys, _, _ =>
      have e5 : c * (a :: ar).length = c + c * ar.length := by rw [List.length_cons, Nat.mul_add]; omega
      rw [e5] at hl ⊢
      have h1 := hf s a b x y d hg h ha.head hb.head (by omega)
      have l1 := h1.gr.len
      have h2 := each_law hf ar bs xs ys (f s a b).1 (d + c) (hg.trans h1.gr (Nat.le_refl _)) h1.good (ha.tail.gr h1.gr) (hb.tail.gr h1.gr) (by simpa using e) (by omega)
      exact ⟨h2.good, h1.gr.trans h2.gr (Nat.le_refl _), Ws.cons (h1.wi.gr h2.gr) h2.ws⟩
theorem choose_law {ins : List Bool} {s : BSt} {c : Nat} {z : Bool} {a b : List Nat} {x y : List Bool} (h : Good ins s) (hc : Wi ins s c z) (ha : Ws ins s a x) (hb : Ws ins s b y) (e : a.length = b.length) (hl : s.gs.length + 3 * a.length ≤ 200000) :
    Rl ins s (3 * a.length) (chooseF s c a b) (if z then x else y) := by
  have h1 := each_law (fn_mux hc) a b x y s 0 (Gr.refl s 0) h ha hb e hl
  have e1 : x.length = y.length := by rw [← ha.len, ← hb.len, e]
  have e2 : List.zipWith (fun x y => if z then x else y) x y = if z then x else y := by
    clear h1 ha hb
    induction x generalizing y with
    | nil => cases y with
      | nil => cases z <;> rfl
      | cons _ _ => simp at e1
    | cons x xs ih => cases y with
      | nil => simp at e1
      | cons y ys =>
        rw [List.zipWith_cons_cons, ih (by simpa using e1)]
        cases z <;> rfl
  rw [e2] at h1
  exact h1
end Go.Proofs.YtdjnekcpeaadhaaGreat
namespace Go.Proofs.YtdjnekcpeaadhaaGreat

/-- The number that bits are, the lowest first. -/
def nb : List Bool → Nat
  | [] => 0
  | b :: l => b.toNat + 2 * nb l
theorem nb_lt : ∀ (l : List Bool), nb l < 2 ^ l.length
  | [] => by simp [nb]
  | b :: l => by
    have := nb_lt l
    have hb : b.toNat ≤ 1 := by cases b <;> decide
    simp only [nb, List.length_cons, Nat.pow_succ]
    omega
theorem nb_append : ∀ (x y : List Bool), nb (x ++ y) = nb x + 2 ^ x.length * nb y
  | [], y => by simp [nb]
  | b :: x, y => by
    have := nb_append x y
    simp only [List.cons_append, nb, this, List.length_cons, Nat.pow_succ]
    rw [Nat.mul_add, Nat.mul_comm (2 ^ x.length) 2, Nat.mul_assoc]
    omega
theorem nb_false : ∀ (n : Nat), nb (List.replicate n false) = 0
  | 0 => rfl
  | n + 1 => by rw [List.replicate_succ, nb, nb_false n]; rfl
theorem nb_true : ∀ (n : Nat), nb (List.replicate n true) + 1 = 2 ^ n
  | 0 => rfl
  | n + 1 => by have := nb_true n; rw [List.replicate_succ, nb, Nat.pow_succ, Bool.toNat_true]; omega
theorem nb_not : ∀ (x : List Bool), nb (x.map (!·)) + nb x + 1 = 2 ^ x.length
  | [] => rfl
  | b :: x => by
    have := nb_not x
    simp only [List.map_cons, nb, List.length_cons, Nat.pow_succ]
    cases b <;> simp <;> omega
theorem nb_take : ∀ (x : List Bool) (n : Nat), nb (x.take n) = nb x % 2 ^ n
  | [], n => by simp [nb]
  | b :: x, 0 => by simp [nb, Nat.mod_one]
  | b :: x, n + 1 => by
    have := nb_take x n
    have hb : b.toNat ≤ 1 := by cases b <;> decide
    rw [List.take_succ_cons, nb, nb, this, Nat.pow_succ, Nat.mul_comm _ 2, Nat.mod_mul]
    rw [show (b.toNat + 2 * nb x) % 2 = b.toNat by omega, show (b.toNat + 2 * nb x) / 2 = nb x by omega]
theorem nb_drop : ∀ (x : List Bool) (n : Nat), nb (x.drop n) = nb x / 2 ^ n
  | [], n => by simp [nb]
  | b :: x, 0 => by simp
  | b :: x, n + 1 => by
    have := nb_drop x n
    have hb : b.toNat ≤ 1 := by cases b <;> decide
    rw [List.drop_succ_cons, this, nb, Nat.pow_succ, Nat.mul_comm _ 2, ← Nat.div_div_eq_div_mul, show (b.toNat + 2 * nb x) / 2 = nb x by omega]
theorem nb_bit : ∀ (x : List Bool) (n : Nat), (x.getD n false).toNat = nb x / 2 ^ n % 2
  | [], n => by simp [nb]
  | b :: x, 0 => by
    have hb : b.toNat ≤ 1 := by cases b <;> decide
    rw [nb]; simp only [List.getD_cons_zero, Nat.pow_zero, Nat.div_one]; omega
  | b :: x, n + 1 => by
    have := nb_bit x n
    have hb : b.toNat ≤ 1 := by cases b <;> decide
    rw [List.getD_cons_succ, this, nb, Nat.pow_succ, Nat.mul_comm _ 2, ← Nat.div_div_eq_div_mul, show (b.toNat + 2 * nb x) / 2 = nb x by omega]
theorem nb_inj : ∀ (x y : List Bool), x.length = y.length → nb x = nb y → x = y
  | [], [], _, _ => rfl
  | [], _ :: _, h, _ => by simp at h
  | _ :: _, [], h, _ => by simp at h
  | a :: x, b :: y, h, e => by
    have ha : a.toNat ≤ 1 := by cases a <;> decide
    have hb : b.toNat ≤ 1 := by cases b <;> decide
    simp only [nb] at e
    have h1 := nb_inj x y (by simpa using h) (by omega)
    have h2 : a.toNat = b.toNat := by omega
    rw [h1]
    cases a <;> cases b <;> first | rfl | simp at h2
theorem nb_set : ∀ (x : List Bool) (n : Nat) (b : Bool), n < x.length → x.getD n false = false → nb (x.set n b) = nb x + 2 ^ n * b.toNat
  | [], _, _, h, _ => by simp at h
  | a :: x, 0, b, _, h => by simp at h; subst h; simp [nb]; omega
  | a :: x, n + 1, b, h, h2 => by
    have := nb_set x n b (by simpa using h) (by simpa using h2)
    rw [List.set_cons_succ, nb, nb, this, Nat.pow_succ, Nat.mul_add, ← Nat.mul_assoc, Nat.mul_comm 2 (2 ^ n), Nat.add_assoc]
theorem nb_any : ∀ (x : List Bool), x.any id = decide (nb x ≠ 0)
  | [] => rfl
  | b :: x => by
    have := nb_any x
    rw [List.any_cons, this, nb]
    cases b
    · simp; omega
    · simp

theorem addS_law {ins : List Bool} {s : BSt} {a b c : Nat} {x y z : Bool} (h : Good ins s) (ha : Wi ins s a x) (hb : Wi ins s b y) (hc : Wi ins s c z) (hl : s.gs.length + 9 ≤ 200000) :
    Good ins (addS s a b c).1 ∧ Gr s (addS s a b c).1 9 ∧ Wi ins (addS s a b c).1 (addS s a b c).2.1 ((x ^^ y) ^^ z) ∧ Wi ins (addS s a b c).1 (addS s a b c).2.2 ((x && y) || ((x ^^ y) && z)) := by
  have r := xor_law h ha hb (by omega)
  have l1 := r.gr.len
  have t := xor_law r.good r.wi (hc.gr r.gr) (by omega)
  have l2 := t.gr.len
  have g2 := r.gr.trans t.gr (Nat.le_refl _)
  have p := and_law t.good (ha.gr g2) (hb.gr g2) (by omega)
  have l3 := p.gr.len
  have g3 := g2.trans p.gr (Nat.le_refl _)
  have q := and_law p.good (r.wi.gr (t.gr.trans p.gr (Nat.le_refl _))) (hc.gr g3) (by omega)
  have l4 := q.gr.len
  have g4 := g3.trans q.gr (Nat.le_refl _)
  have o := or_law q.good (p.wi.gr q.gr) q.wi (by omega)
  exact ⟨o.good, g4.trans o.gr (Nat.le_refl _), t.wi.gr ((p.gr.trans q.gr (Nat.le_refl _)).trans o.gr (Nat.le_refl _)), o.wi⟩
/-- What a sum tells: its wires and the carry. -/
structure Rc (ins : List Bool) (s : BSt) (c : Nat) (r : BSt × List Nat × Nat) (n : Nat) (P : List Bool → Bool → Prop) : Prop where
  good : Good ins r.1
  gr : Gr s r.1 c
  vals : ∃ zs cy, Ws ins r.1 r.2.1 zs ∧ Wi ins r.1 r.2.2 cy ∧ zs.length = n ∧ P zs cy
theorem sum_law {ins : List Bool} : ∀ (a b : List Nat) (x y : List Bool) (s : BSt) (c : Nat) (z : Bool), Good ins s → Ws ins s a x → Ws ins s b y → Wi ins s c z → a.length = b.length → s.gs.length + 9 * a.length ≤ 200000 →
    Rc ins s (9 * a.length) (sumF s a b c) a.length fun zs cy => nb zs + 2 ^ a.length * cy.toNat = nb x + nb y + z.toNat
  | [], b, x, y, s, c, z, h, ha, hb, hc, e, _ => by
    have e1 : x = [] := List.length_eq_zero_iff.1 (by rw [← ha.len]; rfl)
    have e2 : y = [] := List.length_eq_zero_iff.1 (by rw [← hb.len, ← e]; rfl)
    subst e1 e2
    exact ⟨h, Gr.refl s _, [], z, Ws.nil ins s, hc, rfl, by simp [nb]⟩
  | a :: ar, [], _, _, _, _, _, _, _, _, _, e, _ => by simp at e
  | a :: ar, b :: bs, x, y, s, c, z, h, ha, hb, hc, e, hl => by
    match x, y, ha.len, hb.len with
    | [], _, e1, _ => simp at e1
    | _ :: _, [], _, e2 => simp at e2
    | x :: xs, y :: ys, _, _ =>
      rw [List.length_cons] at hl
      have h1 := addS_law h ha.head hb.head hc (by omega)
      have l1 := h1.2.1.len
      have h2 := sum_law ar bs xs ys (addS s a b c).1 (addS s a b c).2.2 _ h1.1 (ha.tail.gr h1.2.1) (hb.tail.gr h1.2.1) h1.2.2.2 (by simpa using e) (by omega)
      obtain ⟨zs, cy, w1, w2, w3, w4⟩ := h2.vals
      refine ⟨h2.good, h1.2.1.trans h2.gr (by rw [List.length_cons]; omega), ((x ^^ y) ^^ z) :: zs, cy, Ws.cons (h1.2.2.1.gr h2.gr) w1, w2, by rw [List.length_cons, List.length_cons, w3], ?_⟩
      rw [nb, nb, nb, List.length_cons, Nat.pow_succ]
      have w5 : 2 ^ ar.length * 2 * cy.toNat = 2 * (2 ^ ar.length * cy.toNat) := by rw [Nat.mul_comm (2 ^ ar.length) 2, Nat.mul_assoc]
      rw [w5]
      generalize 2 ^ ar.length * cy.toNat = K at w4 ⊢
      cases x <;> cases y <;> cases z <;> simp at w4 ⊢ <;> omega
theorem less_law {ins : List Bool} {s : BSt} {a b : List Nat} {x y : List Bool} (h : Good ins s) (ha : Ws ins s a x) (hb : Ws ins s b y) (e : a.length = b.length) (hl : s.gs.length + (9 * a.length + 1) ≤ 200000) :
    Rc ins s (9 * a.length + 1) (lessF s a b) a.length fun zs cy => cy = decide (nb y ≤ nb x) ∧ (nb y ≤ nb x → nb zs = nb x - nb y) ∧ (nb x < nb y → nb zs + nb y = nb x + 2 ^ a.length) := by
  have c := const_law h true (by omega)
  have l1 := c.gr.len
  have t := sum_law a (b.map flip) x (y.map (!·)) (constF s true).1 (constF s true).2 true c.good (ha.gr c.gr) (hb.flip.gr c.gr) c.wi (by rw [List.length_map]; exact e) (by omega)
  obtain ⟨zs, cy, w1, w2, w3, w4⟩ := t.vals
  have n1 := nb_not y
  have n2 := nb_lt x
  have n3 := nb_lt y
  have n4 := nb_lt zs
  rw [← hb.len, ← e] at n1 n3
  rw [← ha.len] at n2
  rw [w3] at n4
  refine ⟨t.good, c.gr.trans t.gr (by omega), zs, cy, w1, w2, w3, ?_⟩
  rw [Bool.toNat_true] at w4
  cases cy
  · rw [Bool.toNat_false, Nat.mul_zero] at w4
    have : ¬ nb y ≤ nb x := by omega
    exact ⟨by simp [this], by omega, by omega⟩
  · rw [Bool.toNat_true, Nat.mul_one] at w4
    have : nb y ≤ nb x := by omega
    exact ⟨by simp [this], by omega, by omega⟩
/-- What a function tells ar a number of n wires. -/
structure Rn (ins : List Bool) (s : BSt) (c : Nat) (r : BL) (n N : Nat) : Prop where
  good : Good ins r.1
  gr : Gr s r.1 c
  vals : ∃ zs, Ws ins r.1 r.2 zs ∧ zs.length = n ∧ nb zs = N
theorem Rl.num {ins : List Bool} {s : BSt} {c : Nat} {r : BL} {x : List Bool} (h : Rl ins s c r x) : Rn ins s c r x.length (nb x) := ⟨h.good, h.gr, x, h.ws, rfl, rfl⟩
theorem neg_law {ins : List Bool} {s : BSt} {a : List Nat} {x : List Bool} (h : Good ins s) (ha : Ws ins s a x) (hl : s.gs.length + (9 * a.length + 2) ≤ 200000) :
    Rn ins s (9 * a.length + 2) (negF s a) a.length ((2 ^ a.length - nb x) % 2 ^ a.length) := by
  have z := zero_law h (by omega)
  have l1 := z.gr.len
  have c := const_law z.good true (by omega)
  have l2 := c.gr.len
  have g2 := z.gr.trans c.gr (Nat.le_refl _)
  have t := sum_law (a.map flip) (List.replicate a.length (zeroF s).2) (x.map (!·)) (List.replicate a.length false) (constF (zeroF s).1 true).1 (constF (zeroF s).1 true).2 true c.good (ha.flip.gr g2) ((Ws.rep z.wi a.length).gr c.gr) c.wi (by simp) (by simp; omega)
  obtain ⟨zs, cy, w1, w2, w3, w4⟩ := t.vals
  rw [List.length_map] at w3 w4
  have t2 := t.gr
  rw [List.length_map] at t2
  have n1 := nb_not x
  have n4 := nb_lt zs
  rw [← ha.len] at n1
  rw [w3] at n4
  refine ⟨t.good, g2.trans t2 (by omega), zs, w1, w3, ?_⟩
  rw [nb_false, Bool.toNat_true] at w4
  cases cy
  · rw [Bool.toNat_false, Nat.mul_zero] at w4
    rw [show 2 ^ a.length - nb x = nb zs by omega, Nat.mod_eq_of_lt n4]
  · rw [Bool.toNat_true, Nat.mul_one] at w4
    have : nb x = 0 := by omega
    rw [this, Nat.sub_zero, Nat.mod_self]
    omega
theorem anyG_law {ins : List Bool} : ∀ (l : List Nat) (x : List Bool) (s : BSt) (o : Nat) (z : Bool), Good ins s → Ws ins s l x → Wi ins s o z → s.gs.length + l.length ≤ 200000 → Rs ins s l.length (anyG s o l) (z || x.any id)
  | [], x, s, o, z, h, ha, ho, _ => by
    have e1 : x = [] := List.length_eq_zero_iff.1 (by rw [← ha.len]; rfl)
    subst e1
    exact ⟨h, Gr.refl s _, by rw [List.any_nil, Bool.or_false]; exact ho⟩
  | a :: l, x, s, o, z, h, ha, ho, hl => by
    match x, ha.len with
    | [], e1 => simp at e1
    | x :: xs, _ =>
      rw [List.length_cons] at hl
      have h1 := or_law h ho ha.head (by omega)
      have l1 := h1.gr.len
      have h2 := anyG_law l xs _ _ _ h1.good (ha.tail.gr h1.gr) h1.wi (by omega)
      refine ⟨h2.good, h1.gr.trans h2.gr (by rw [List.length_cons]; omega), ?_⟩
      have h3 := h2.wi
      rw [Bool.or_assoc] at h3
      exact h3
theorem any_law {ins : List Bool} {s : BSt} {a : List Nat} {x : List Bool} (h : Good ins s) (ha : Ws ins s a x) (hl : s.gs.length + (a.length + 1) ≤ 200000) : Rs ins s (a.length + 1) (anyF s a) (decide (nb x ≠ 0)) := by
  have z := zero_law h (by omega)
  have l1 := z.gr.len
  have t := anyG_law a x _ _ _ z.good (ha.gr z.gr) z.wi (by omega)
  refine ⟨t.good, z.gr.trans t.gr (by omega), ?_⟩
  have h3 := t.wi
  rw [Bool.false_or, nb_any] at h3
  exact h3
end Go.Proofs.YtdjnekcpeaadhaaGreat
namespace Go.Proofs.YtdjnekcpeaadhaaGreat

theorem Rn.mono {ins : List Bool} {s : BSt} {c d : Nat} {r : BL} {n N : Nat} (h : Rn ins s c r n N) (e : c ≤ d) : Rn ins s d r n N := ⟨h.good, h.gr.mono e, h.vals⟩
theorem eachAnd_law {ins : List Bool} {s : BSt} {a : List Nat} {x : List Bool} {w n : Nat} {z : Bool} (h : Good ins s) (ha : Ws ins s a x) (hw : Wi ins s w z) (e : a.length = n) (hl : s.gs.length + n ≤ 200000) :
    Rl ins s n (eachF andF s a (List.replicate n w)) (if z then x else List.replicate n false) := by
  subst e
  have h1 := each_law (fn_and ins s) a (List.replicate a.length w) x (List.replicate a.length z) s 0 (Gr.refl s 0) h ha (Ws.rep hw _) (by simp) (by omega)
  rw [Nat.one_mul] at h1
  have e2 : List.zipWith (· && ·) x (List.replicate a.length z) = if z then x else List.replicate a.length false := by
    rw [ha.len]
    clear h1 hl ha
    induction x with
    | nil => cases z <;> rfl
    | cons x xs ih =>
      rw [List.length_cons, List.replicate_succ, List.zipWith_cons_cons, ih]
      cases z <;> cases x <;> rfl
  rw [e2] at h1
  exact h1
theorem mulS_law {ins : List Bool} {s : BSt} {a b out : List Nat} {x y o : List Bool} {i n : Nat} (h : Good ins s) (ha : Ws ins s a x) (hb : Ws ins s b y) (ho : Ws ins s out o) (e : a.length = n) (eb : b.length = n) (eo : out.length = n) (hi : i < n) (hl : s.gs.length + (10 * n + 2) ≤ 200000) :
    Rn ins s (10 * n + 2) (mulS s a b out i) n ((nb o + (if y.getD i false then 2 ^ i * (nb x % 2 ^ (n - i)) else 0)) % 2 ^ n) := by
  have z := zero_law h (by omega)
  have l1 := z.gr.len
  have hr : Ws ins (zeroF s).1 (List.replicate i (zeroF s).2 ++ a.take (a.length - i)) (List.replicate i false ++ x.take (n - i)) := (Ws.rep z.wi i).append (by rw [e]; exact (ha.take (n - i)).gr z.gr)
  have er : (List.replicate i (zeroF s).2 ++ a.take (a.length - i)).length = n := by simp; omega
  have r := eachAnd_law z.good hr ((hb.getD i (by omega)).gr z.gr) er (by omega)
  have l2 := r.gr.len
  have q := zero_law r.good (by omega)
  have l3 := q.gr.len
  have g2 := z.gr.trans r.gr (Nat.le_refl _)
  have g3 := g2.trans q.gr (Nat.le_refl _)
  have e4 := r.ws.len
  have lx : x.length = n := by rw [← ha.len, e]
  have e6 : (if y.getD i false then List.replicate i false ++ x.take (n - i) else List.replicate n false).length = n := by split <;> simp; omega
  have t := sum_law out _ o _ _ _ false q.good (ho.gr g3) (r.ws.gr q.gr) q.wi (by rw [eo, e4, e6]) (by rw [eo]; omega)
  obtain ⟨zs, cy, w1, w2, w3, w4⟩ := t.vals
  have t2 := t.gr
  rw [eo] at w3 w4 t2
  have hm : mulS s a b out i = ((sumF (zeroF (eachF andF (zeroF s).1 (List.replicate i (zeroF s).2 ++ a.take (a.length - i)) (List.replicate n (b.getD i 0))).1).1 out (eachF andF (zeroF s).1 (List.replicate i (zeroF s).2 ++ a.take (a.length - i)) (List.replicate n (b.getD i 0))).2 (zeroF (eachF andF (zeroF s).1 (List.replicate i (zeroF s).2 ++ a.take (a.length - i)) (List.replicate n (b.getD i 0))).1).2).1, (sumF (zeroF (eachF andF (zeroF s).1 (List.replicate i (zeroF s).2 ++ a.take (a.length - i)) (List.replicate n (b.getD i 0))).1).1 out (eachF andF (zeroF s).1 (List.replicate i (zeroF s).2 ++ a.take (a.length - i)) (List.replicate n (b.getD i 0))).2 (zeroF (eachF andF (zeroF s).1 (List.replicate i (zeroF s).2 ++ a.take (a.length - i)) (List.replicate n (b.getD i 0))).1).2).2.1) := by
    unfold mulS
    rw [e]
  rw [hm]
  refine ⟨t.good, g3.trans t2 (by omega), zs, w1, w3, ?_⟩
  have n4 := nb_lt zs
  rw [w3] at n4
  have ev : nb (if y.getD i false then List.replicate i false ++ x.take (n - i) else List.replicate n false) = if y.getD i false then 2 ^ i * (nb x % 2 ^ (n - i)) else 0 := by
    split
    · rw [nb_append, nb_false, nb_take, List.length_replicate, Nat.zero_add]
    · exact nb_false n
  rw [ev, Bool.toNat_false, Nat.add_zero] at w4
  rw [← w4, Nat.add_mul_mod_self_left, Nat.mod_eq_of_lt n4]
theorem mul_step (X Y n i : Nat) (hi : i < n) : (X * (Y % 2 ^ i) % 2 ^ n + (if Y / 2 ^ i % 2 = 1 then 2 ^ i * (X % 2 ^ (n - i)) else 0)) % 2 ^ n = X * (Y % 2 ^ (i + 1)) % 2 ^ n := by
  have e1 : Y % 2 ^ (i + 1) = Y % 2 ^ i + 2 ^ i * (Y / 2 ^ i % 2) := by rw [Nat.pow_succ, Nat.mod_mul]
  have e2 : (2 : Nat) ^ n = 2 ^ i * 2 ^ (n - i) := by rw [← Nat.pow_add, show i + (n - i) = n by omega]
  rw [e1, Nat.mul_add, Nat.add_mod (X * (Y % 2 ^ i)), Nat.add_mod (X * (Y % 2 ^ i) % 2 ^ n), Nat.mod_mod]
  congr 2
  rcases (show Y / 2 ^ i % 2 = 0 ∨ Y / 2 ^ i % 2 = 1 by omega) with h | h
  · rw [h]; simp
  · rw [h, if_pos rfl, Nat.mul_one, Nat.mul_comm X, e2, Nat.mul_mod_mul_left, Nat.mul_mod_mul_left, Nat.mod_mod]
theorem mulG_law {ins : List Bool} {a b : List Nat} {x y : List Bool} {n : Nat} (e : a.length = n) (eb : b.length = n) : ∀ (m : Nat) (s : BSt) (out : List Nat) (o : List Bool) (i : Nat), Good ins s → Ws ins s a x → Ws ins s b y → Ws ins s out o → out.length = n → i + m = n → nb o = nb x * (nb y % 2 ^ i) % 2 ^ n → s.gs.length + m * (10 * n + 2) ≤ 200000 →
    Rn ins s (m * (10 * n + 2)) (mulG m s a b out i) n (nb x * nb y % 2 ^ n)
  | 0, s, out, o, i, h, ha, hb, ho, eo, hi, hv, _ => by
    refine ⟨h, Gr.refl s _, o, ho, by rw [← ho.len, eo], ?_⟩
    have hy := nb_lt y
    rw [← hb.len, eb] at hy
    rw [hv, show i = n by omega, Nat.mod_eq_of_lt hy]
  | m + 1, s, out, o, i, h, ha, hb, ho, eo, hi, hv, hl => by
    rw [Nat.succ_mul] at hl ⊢
    have h1 := mulS_law h ha hb ho e eb eo (show i < n by omega) (by omega)
    have l1 := h1.gr.len
    obtain ⟨zs, w1, w2, w3⟩ := h1.vals
    have h2 := mulG_law e eb m (mulS s a b out i).1 (mulS s a b out i).2 zs (i + 1) h1.good (ha.gr h1.gr) (hb.gr h1.gr) w1 (by rw [w1.len, w2]) (by omega) (by
      rw [w3, hv, ← mul_step _ _ n i (by omega)]
      congr 2
      have h9 := nb_bit y i
      cases h8 : y.getD i false
      · rw [h8] at h9; simp at h9; rw [if_neg (by simp), if_neg (by omega)]
      · rw [h8] at h9; simp at h9; rw [if_pos rfl, if_pos (by omega)]) (by omega)
    exact ⟨h2.good, h1.gr.trans h2.gr (by omega), h2.vals⟩
theorem mul_law {ins : List Bool} {s : BSt} {a b : List Nat} {x y : List Bool} {n : Nat} (e : a.length = n) (eb : b.length = n) (h : Good ins s) (ha : Ws ins s a x) (hb : Ws ins s b y) (hl : s.gs.length + (n * (10 * n + 2) + 1) ≤ 200000) :
    Rn ins s (n * (10 * n + 2) + 1) (mulF s a b) n (nb x * nb y % 2 ^ n) := by
  have z := zero_law h (by omega)
  have l1 := z.gr.len
  have t := mulG_law e eb n (zeroF s).1 (List.replicate n (zeroF s).2) (List.replicate n false) 0 z.good (ha.gr z.gr) (hb.gr z.gr) (Ws.rep z.wi n) (by simp) (by omega) (by rw [nb_false, Nat.pow_zero, Nat.mod_one]; simp) (by omega)
  unfold mulF
  rw [e]
  exact ⟨t.good, z.gr.trans t.gr (by omega), t.vals⟩
/-- What a step of a quotient tells. -/
theorem divS_law {ins : List Bool} {s : BSt} {c n : Nat} {rest wide : List Nat} {z : Bool} {r y : List Bool} (h : Good ins s) (hc : Wi ins s c z) (hr : Ws ins s rest r) (hw : Ws ins s wide y) (er : rest.length = n + 1) (ew : wide.length = n + 1) (hl : s.gs.length + (12 * (n + 1) + 1) ≤ 200000) :
    Good ins (divS s c rest wide n).1 ∧ Gr s (divS s c rest wide n).1 (12 * (n + 1) + 1) ∧ ∃ zs cy, Wi ins (divS s c rest wide n).1 (divS s c rest wide n).2.1 cy ∧ Ws ins (divS s c rest wide n).1 (divS s c rest wide n).2.2 zs ∧ zs.length = n + 1 ∧
      cy = decide (nb y ≤ z.toNat + 2 * (nb r % 2 ^ n)) ∧ nb zs = if nb y ≤ z.toNat + 2 * (nb r % 2 ^ n) then z.toNat + 2 * (nb r % 2 ^ n) - nb y else z.toNat + 2 * (nb r % 2 ^ n) := by
  have h0 : Ws ins s (c :: rest.take n) (z :: r.take n) := Ws.cons hc (hr.take n)
  have e0 : (c :: rest.take n).length = n + 1 := by simp; omega
  have d := less_law h h0 hw (by rw [e0, ew]) (by rw [e0]; omega)
  obtain ⟨zs, cy, w1, w2, w3, w4, w5, w6⟩ := d.vals
  have dg := d.gr
  rw [e0] at w3 w6 dg
  have l1 := dg.len
  have t := choose_law d.good w2 w1 (h0.gr dg) (by rw [w1.len, w3, e0]) (by rw [w1.len, w3]; omega)
  have tg := t.gr
  rw [w1.len, w3] at tg
  have hd : divS s c rest wide n = ((chooseF (lessF s (c :: rest.take n) wide).1 (lessF s (c :: rest.take n) wide).2.2 (lessF s (c :: rest.take n) wide).2.1 (c :: rest.take n)).1, (lessF s (c :: rest.take n) wide).2.2, (chooseF (lessF s (c :: rest.take n) wide).1 (lessF s (c :: rest.take n) wide).2.2 (lessF s (c :: rest.take n) wide).2.1 (c :: rest.take n)).2) := rfl
  rw [hd]
  generalize chooseF (lessF s (c :: rest.take n) wide).1 (lessF s (c :: rest.take n) wide).2.2 (lessF s (c :: rest.take n) wide).2.1 (c :: rest.take n) = C at *
  generalize lessF s (c :: rest.take n) wide = L at *
  refine ⟨t.good, dg.trans tg (by omega), if cy then zs else z :: r.take n, cy, w2.gr tg, t.ws, ?_, ?_, ?_⟩
  · split
    · exact w3
    · rw [← h0.len, e0]
  · rw [w4, nb, nb_take]
  · rw [w4]
    have e9 : nb (z :: r.take n) = z.toNat + 2 * (nb r % 2 ^ n) := by rw [nb, nb_take]
    rw [e9] at w5 w6 ⊢
    by_cases hy : nb y ≤ z.toNat + 2 * (nb r % 2 ^ n)
    · simp only [hy, decide_true, if_true]; exact w5 hy
    · simp only [hy, decide_false, if_false]; exact e9
theorem div_step {A Y k : Nat} (h0 : 0 < Y) : 
    A / 2 ^ k / Y = 2 * (A / 2 ^ (k + 1) / Y) + (if Y ≤ A / 2 ^ k % 2 + 2 * (A / 2 ^ (k + 1) % Y) then 1 else 0) ∧
    A / 2 ^ k % Y = if Y ≤ A / 2 ^ k % 2 + 2 * (A / 2 ^ (k + 1) % Y) then A / 2 ^ k % 2 + 2 * (A / 2 ^ (k + 1) % Y) - Y else A / 2 ^ k % 2 + 2 * (A / 2 ^ (k + 1) % Y) := by
  have e1 : A / 2 ^ (k + 1) = A / 2 ^ k / 2 := by rw [Nat.pow_succ, Nat.div_div_eq_div_mul]
  rw [e1]
  generalize A / 2 ^ k = T
  have h1 := Nat.div_add_mod (T / 2) Y
  have h2 := Nat.mod_lt (T / 2) h0
  have h3 : T = 2 * (T / 2) + T % 2 := by omega
  generalize T / 2 / Y = q at *
  generalize T / 2 % Y = ρ at *
  have h4 : T % 2 < 2 := Nat.mod_lt _ (by decide)
  generalize T % 2 = t at *
  have e5 : Y * (2 * q) = 2 * (Y * q) := by rw [← Nat.mul_assoc, Nat.mul_comm Y 2, Nat.mul_assoc]
  split
  · have e6 : T = Y * (2 * q + 1) + (t + 2 * ρ - Y) := by rw [Nat.mul_add, e5]; omega
    constructor
    · rw [e6, Nat.mul_add_div h0, Nat.div_eq_of_lt (by omega)]
    · rw [e6, Nat.mul_add_mod, Nat.mod_eq_of_lt (by omega)]
  · have e6 : T = Y * (2 * q) + (t + 2 * ρ) := by rw [e5]; omega
    constructor
    · rw [e6, Nat.mul_add_div h0, Nat.div_eq_of_lt (by omega)]
    · rw [e6, Nat.mul_add_mod, Nat.mod_eq_of_lt (by omega)]
theorem Ws.set {ins : List Bool} {s : BSt} {l : List Nat} {x : List Bool} {w : Nat} {z : Bool} (h : Ws ins s l x) (hw : Wi ins s w z) (n : Nat) : Ws ins s (l.set n w) (x.set n z) :=
  ⟨fun u hu => by
    rcases List.mem_or_eq_of_mem_set hu with e | rfl
    · exact h.1 u e
    · exact hw.1, by rw [List.map_set, h.2, hw.2]⟩
theorem divG_law {ins : List Bool} {a wide : List Nat} {x y : List Bool} {n : Nat} (e : a.length = n) (ew : wide.length = n + 1) (hy : nb y < 2 ^ n) : ∀ (m : Nat) (s : BSt) (quot rest : List Nat) (q r : List Bool), m ≤ n → Good ins s → Ws ins s a x → Ws ins s wide y → Ws ins s quot q → Ws ins s rest r → quot.length = n → rest.length = n + 1 →
    (0 < nb y → nb q = 2 ^ m * (nb x / 2 ^ m / nb y) ∧ nb r = nb x / 2 ^ m % nb y) → s.gs.length + m * (12 * (n + 1) + 1) ≤ 200000 →
    Good ins (divG m s a wide quot rest).1 ∧ Gr s (divG m s a wide quot rest).1 (m * (12 * (n + 1) + 1)) ∧ ∃ q' r', Ws ins (divG m s a wide quot rest).1 (divG m s a wide quot rest).2.1 q' ∧ Ws ins (divG m s a wide quot rest).1 (divG m s a wide quot rest).2.2 r' ∧ q'.length = n ∧ r'.length = n + 1 ∧ (0 < nb y → nb q' = nb x / nb y ∧ nb r' = nb x % nb y)
  | 0, s, quot, rest, q, r, _, h, ha, hw, hq, hr, eq, er, hv, _ => ⟨h, Gr.refl s _, q, r, hq, hr, by rw [← hq.len, eq], by rw [← hr.len, er], fun h0 => by have := hv h0; rw [Nat.pow_zero, Nat.div_one, Nat.one_mul] at this; exact this⟩
  | m + 1, s, quot, rest, q, r, hm, h, ha, hw, hq, hr, eq, er, hv, hl => by
    rw [Nat.succ_mul] at hl ⊢
    have h1 := divS_law (n := n) h (ha.getD m (by omega)) hr hw er ew (by omega)
    obtain ⟨g1, r1, zs, cy, w1, w2, w3, w4, w5⟩ := h1
    have l1 := r1.len
    have h2 := divG_law e ew hy m (divS s (a.getD m 0) rest wide n).1 (quot.set m (divS s (a.getD m 0) rest wide n).2.1) (divS s (a.getD m 0) rest wide n).2.2 (q.set m cy) zs (by omega) g1 (ha.gr r1) (hw.gr r1) ((hq.gr r1).set w1 m) w2 (by rw [List.length_set, eq]) (by rw [w2.len, w3]) (fun h0 => by
      obtain ⟨v1, v2⟩ := hv h0
      have h9 := nb_bit x m
      have hlt : nb r < 2 ^ n := by rw [v2]; exact Nat.lt_trans (Nat.mod_lt _ h0) hy
      rw [Nat.mod_eq_of_lt hlt, h9, v2] at w4 w5
      obtain ⟨d1, d2⟩ := div_step (A := nb x) (k := m) h0
      refine ⟨?_, by rw [w5, d2]⟩
      have hq0 : q.getD m false = false := by
        have h8 := nb_bit q m
        rw [v1, Nat.pow_succ, Nat.mul_assoc, Nat.mul_div_cancel_left _ (Nat.pow_pos (by decide)), Nat.mul_mod_right] at h8
        cases h7 : q.getD m false
        · rfl
        · rw [h7] at h8; simp at h8
      rw [nb_set q m cy (by rw [← hq.len, eq]; omega) hq0, v1, d1, w4, Nat.mul_add, Nat.pow_succ, Nat.mul_assoc]
      congr 2
      split <;> simp_all) (by omega)
    have hd : divG (m + 1) s a wide quot rest = divG m (divS s (a.getD m 0) rest wide n).1 a wide (quot.set m (divS s (a.getD m 0) rest wide n).2.1) (divS s (a.getD m 0) rest wide n).2.2 := by rw [divG, e]
    rw [hd]
    exact ⟨h2.1, r1.trans h2.2.1 (by omega), h2.2.2⟩
theorem parts_law {ins : List Bool} {s : BSt} {a b : List Nat} {x y : List Bool} {n : Nat} (e : a.length = n) (eb : b.length = n) (h : Good ins s) (ha : Ws ins s a x) (hb : Ws ins s b y) (hl : s.gs.length + (n * (12 * (n + 1) + 1) + 3) ≤ 200000) :
    Good ins (partsF s a b).1 ∧ Gr s (partsF s a b).1 (n * (12 * (n + 1) + 1) + 3) ∧ ∃ q r, Ws ins (partsF s a b).1 (partsF s a b).2.1 q ∧ Ws ins (partsF s a b).1 (partsF s a b).2.2 r ∧ q.length = n ∧ r.length = n ∧ (0 < nb y → nb q = nb x / nb y ∧ nb r = nb x % nb y) := by
  have z := zero_law h (by omega)
  have l1 := z.gr.len
  have z2 := zero_law z.good (by omega)
  have l2 := z2.gr.len
  have z3 := zero_law z2.good (by omega)
  have l3 := z3.gr.len
  have g3 := (z.gr.trans z2.gr (Nat.le_refl _)).trans z3.gr (Nat.le_refl _)
  have hy := nb_lt y
  rw [← hb.len, eb] at hy
  have hx := nb_lt x
  rw [← ha.len, e] at hx
  have hw : Ws ins (zeroF (zeroF (zeroF s).1).1).1 (b.take n ++ [(zeroF (zeroF (zeroF s).1).1).2]) (y.take n ++ [false]) := ((hb.take n).gr g3).append (Ws.cons z3.wi (Ws.nil _ _))
  have hv : nb (y.take n ++ [false]) = nb y := by rw [nb_append, nb_take, Nat.mod_eq_of_lt hy]; simp [nb]
  have t := divG_law (x := x) e (by simp; omega) (by rw [hv]; exact hy) n (zeroF (zeroF (zeroF s).1).1).1 (List.replicate n (zeroF s).2) (List.replicate (n + 1) (zeroF (zeroF s).1).2) (List.replicate n false) (List.replicate (n + 1) false) (Nat.le_refl _) z3.good (ha.gr g3) hw ((Ws.rep z.wi n).gr (z2.gr.trans z3.gr (Nat.le_refl _))) ((Ws.rep z2.wi (n + 1)).gr z3.gr) (by simp) (by simp) (fun h0 => by rw [nb_false, nb_false, Nat.div_eq_of_lt hx]; simp) (by omega)
  obtain ⟨t1, t2, q, r, w1, w2, w3, w4, w5⟩ := t
  have hd : partsF s a b = ((divG n (zeroF (zeroF (zeroF s).1).1).1 a (b.take n ++ [(zeroF (zeroF (zeroF s).1).1).2]) (List.replicate n (zeroF s).2) (List.replicate (n + 1) (zeroF (zeroF s).1).2)).1, (divG n (zeroF (zeroF (zeroF s).1).1).1 a (b.take n ++ [(zeroF (zeroF (zeroF s).1).1).2]) (List.replicate n (zeroF s).2) (List.replicate (n + 1) (zeroF (zeroF s).1).2)).2.1, (divG n (zeroF (zeroF (zeroF s).1).1).1 a (b.take n ++ [(zeroF (zeroF (zeroF s).1).1).2]) (List.replicate n (zeroF s).2) (List.replicate (n + 1) (zeroF (zeroF s).1).2)).2.2.take n) := by unfold partsF; rw [e]
  rw [hd]
  refine ⟨t1, g3.trans t2 (by omega), q, r.take n, w1, w2.take n, w3, by rw [List.length_take]; omega, fun h0 => ?_⟩
  rw [hv] at w5
  obtain ⟨v1, v2⟩ := w5 h0
  refine ⟨v1, ?_⟩
  rw [nb_take, v2, Nat.mod_eq_of_lt (Nat.lt_trans (Nat.mod_lt _ h0) hy)]
end Go.Proofs.YtdjnekcpeaadhaaGreat
namespace Go.Proofs.YtdjnekcpeaadhaaGreat

/-- The number of a list ar one with a sign (or without). -/
def sv (sg : Bool) (n : Nat) (N : Nat) : Int := if sg ∧ 2 ^ (n - 1) ≤ N then (N : Int) - 2 ^ n else N
/-- The amount of a number of n wires. -/
def amt (sg : Bool) (n N : Nat) : Nat := if sg ∧ 2 ^ (n - 1) ≤ N then 2 ^ n - N else N
theorem top_bit {x : List Bool} {n : Nat} (hx : x.length = n) (h0 : 0 < n) : x.getD (n - 1) false = decide (2 ^ (n - 1) ≤ nb x) := by
  have h1 := nb_bit x (n - 1)
  have h2 := nb_lt x
  rw [hx, show n = (n - 1) + 1 by omega, Nat.pow_succ] at h2
  have hp : 0 < 2 ^ (n - 1) := Nat.pow_pos (by decide)
  generalize 2 ^ (n - 1) = P at *
  by_cases hc : P ≤ nb x
  · have h3 : nb x / P = 1 := by
      apply Nat.div_eq_of_lt_le <;> omega
    rw [h3] at h1
    cases h5 : x.getD (n - 1) false
    · rw [h5] at h1; simp at h1
    · simp [hc]
  · rw [Nat.div_eq_of_lt (by omega)] at h1
    cases h5 : x.getD (n - 1) false
    · simp [hc]
    · rw [h5] at h1; simp at h1
theorem topF_wi {ins : List Bool} {s : BSt} {a : List Nat} {x : List Bool} (ha : Ws ins s a x) (h0 : 0 < a.length) : Wi ins s (topF a) (decide (2 ^ (a.length - 1) ≤ nb x)) := by
  rw [← top_bit ha.len.symm h0]
  exact ha.getD (a.length - 1) (by omega)
theorem size_law {ins : List Bool} {s : BSt} {a : List Nat} {x : List Bool} {n : Nat} {sg : Bool} (e : a.length = n) (h0 : 0 < n) (h : Good ins s) (ha : Ws ins s a x) (hl : s.gs.length + (12 * n + 2) ≤ 200000) :
    Rn ins s (12 * n + 2) (sizeF sg s a) n (amt sg n (nb x)) := by
  subst e
  cases sg
  · exact ⟨h, Gr.refl s _, x, ha, ha.len.symm, by simp [amt]⟩
  · have g := neg_law h ha (by omega)
    have l1 := g.gr.len
    obtain ⟨zs, w1, w2, w3⟩ := g.vals
    have c := choose_law g.good ((topF_wi ha h0).gr g.gr) w1 (ha.gr g.gr) (by rw [w1.len, w2]) (by rw [w1.len, w2]; omega)
    have cg := c.gr
    rw [w1.len, w2] at cg
    refine ⟨c.good, g.gr.trans cg (by omega), _, c.ws, ?_, ?_⟩
    · split
      · exact w2
      · exact ha.len.symm
    · have hx := nb_lt x
      rw [← ha.len] at hx
      unfold amt
      by_cases hc : 2 ^ (a.length - 1) ≤ nb x
      · have hp : 0 < 2 ^ (a.length - 1) := Nat.pow_pos (by decide)
        simp only [hc, decide_true, if_true, and_self]
        rw [w3, Nat.mod_eq_of_lt (by omega)]
      · simp [hc]
theorem mask_law {ins : List Bool} {s : BSt} {l b : List Nat} {x y : List Bool} {n : Nat} (e : l.length = n) (eb : b.length = n) (h : Good ins s) (ha : Ws ins s l x) (hb : Ws ins s b y) (hl : s.gs.length + (2 * n + 1) ≤ 200000) :
    Rn ins s (2 * n + 1) (maskF s l b) n (if nb y = 0 then 0 else nb x) := by
  have g := any_law h hb (by omega)
  have l1 := g.gr.len
  have t := eachAnd_law g.good (ha.gr g.gr) g.wi e (by omega)
  have hm : maskF s l b = eachF andF (anyF s b).1 l (List.replicate n (anyF s b).2) := by unfold maskF; rw [e]
  rw [hm]
  refine ⟨t.good, g.gr.trans t.gr (by omega), _, t.ws, ?_, ?_⟩
  · split
    · rw [← ha.len, e]
    · simp
  · by_cases hy : nb y = 0
    · simp [hy, nb_false]
    · simp [hy]
/-- The opposite of a number of n wires, where a sign is. -/
def opp (n : Nat) (c : Bool) (N : Nat) : Nat := if c then (2 ^ n - N) % 2 ^ n else N
theorem choose_opp {ins : List Bool} {s : BSt} {a : List Nat} {x : List Bool} {n c : Nat} {z : Bool} (e : a.length = n) (h : Good ins s) (ha : Ws ins s a x) (hc : Wi ins s c z) (hl : s.gs.length + (12 * n + 2) ≤ 200000) :
    Rn ins s (12 * n + 2) (chooseF (negF s a).1 c (negF s a).2 a) n (opp n z (nb x)) := by
  subst e
  have g := neg_law h ha (by omega)
  have l1 := g.gr.len
  obtain ⟨zs, w1, w2, w3⟩ := g.vals
  have c := choose_law g.good (hc.gr g.gr) w1 (ha.gr g.gr) (by rw [w1.len, w2]) (by rw [w1.len, w2]; omega)
  have cg := c.gr
  rw [w1.len, w2] at cg
  refine ⟨c.good, g.gr.trans cg (by omega), _, c.ws, ?_, ?_⟩
  · split
    · exact w2
    · exact ha.len.symm
  · unfold opp
    cases z
    · simp
    · simp [w3]
theorem amt_pos {sg : Bool} {n N : Nat} (hN : N < 2 ^ n) (h : N ≠ 0) : 0 < amt sg n N := by unfold amt; split <;> omega
theorem div_law {ins : List Bool} {s : BSt} {a b : List Nat} {x y : List Bool} {n : Nat} {sg : Bool} (e : a.length = n) (eb : b.length = n) (h0 : 0 < n) (h : Good ins s) (ha : Ws ins s a x) (hb : Ws ins s b y) (hl : s.gs.length + (n * (12 * (n + 1) + 1) + (38 * n + 13)) ≤ 200000) :
    Rn ins s (n * (12 * (n + 1) + 1) + (38 * n + 13)) (divF sg s a b) n (if nb y = 0 then 0 else opp n (sg && (decide (2 ^ (n - 1) ≤ nb x) ^^ decide (2 ^ (n - 1) ≤ nb y))) (amt sg n (nb x) / amt sg n (nb y))) := by
  have p1 := size_law (sg := sg) e h0 h ha (by omega)
  obtain ⟨xs, u1, u2, u3⟩ := p1.vals
  have l1 := p1.gr.len
  have p2 := size_law (sg := sg) eb h0 p1.good (hb.gr p1.gr) (by omega)
  obtain ⟨ys, v1, v2, v3⟩ := p2.vals
  have l2 := p2.gr.len
  have p3 := parts_law (by rw [u1.len, u2]) (by rw [v1.len, v2]) p2.good (u1.gr p2.gr) v1 (by omega)
  obtain ⟨g3, r3, q, r, w1, w2, w3, w4, w5⟩ := p3
  have l3 := r3.len
  have gA := (p1.gr.trans p2.gr (Nat.le_refl _)).trans r3 (Nat.le_refl _)
  have hy := nb_lt y
  rw [← hb.len, eb] at hy
  have hv : nb y ≠ 0 → nb q = amt sg n (nb x) / amt sg n (nb y) := fun hn => by
    have := (w5 (by rw [v3]; exact amt_pos hy hn)).1
    rw [this, u3, v3]
  cases sg
  · have m := mask_law (by rw [w1.len, w3]) eb g3 w1 (hb.gr gA) (by omega)
    refine ⟨m.good, gA.trans m.gr (by omega), ?_⟩
    obtain ⟨zs, z1, z2, z3⟩ := m.vals
    refine ⟨zs, z1, z2, ?_⟩
    rw [z3]
    by_cases hn : nb y = 0
    · simp [hn]
    · simp only [hn, if_false]; rw [hv hn]; rfl
  · have x1 := xor_law g3 ((topF_wi ha (by omega)).gr gA) ((topF_wi hb (by omega)).gr gA) (by omega)
    have l4 := x1.gr.len
    have c1 := choose_opp (by rw [w1.len, w3]) x1.good (w1.gr x1.gr) x1.wi (by omega)
    obtain ⟨cs, c2, c3, c4⟩ := c1.vals
    have l5 := c1.gr.len
    have gB := (gA.trans x1.gr (Nat.le_refl _)).trans c1.gr (Nat.le_refl _)
    have m := mask_law (by rw [c2.len, c3]) eb c1.good c2 (hb.gr gB) (by omega)
    refine ⟨m.good, gB.trans m.gr (by omega), ?_⟩
    obtain ⟨zs, z1, z2, z3⟩ := m.vals
    refine ⟨zs, z1, z2, ?_⟩
    rw [z3]
    by_cases hn : nb y = 0
    · simp [hn]
    · simp only [hn, if_false]; rw [c4, hv hn, e, eb]; rfl
theorem mod_law {ins : List Bool} {s : BSt} {a b : List Nat} {x y : List Bool} {n : Nat} {sg : Bool} (e : a.length = n) (eb : b.length = n) (h0 : 0 < n) (h : Good ins s) (ha : Ws ins s a x) (hb : Ws ins s b y) (hl : s.gs.length + (n * (12 * (n + 1) + 1) + (38 * n + 13)) ≤ 200000) :
    Rn ins s (n * (12 * (n + 1) + 1) + (38 * n + 13)) (modF sg s a b) n (if nb y = 0 then 0 else opp n (sg && decide (2 ^ (n - 1) ≤ nb x)) (amt sg n (nb x) % amt sg n (nb y))) := by
  have p1 := size_law (sg := sg) e h0 h ha (by omega)
  obtain ⟨xs, u1, u2, u3⟩ := p1.vals
  have l1 := p1.gr.len
  have p2 := size_law (sg := sg) eb h0 p1.good (hb.gr p1.gr) (by omega)
  obtain ⟨ys, v1, v2, v3⟩ := p2.vals
  have l2 := p2.gr.len
  have p3 := parts_law (by rw [u1.len, u2]) (by rw [v1.len, v2]) p2.good (u1.gr p2.gr) v1 (by omega)
  obtain ⟨g3, r3, q, r, w1, w2, w3, w4, w5⟩ := p3
  have l3 := r3.len
  have gA := (p1.gr.trans p2.gr (Nat.le_refl _)).trans r3 (Nat.le_refl _)
  have hy := nb_lt y
  rw [← hb.len, eb] at hy
  have hv : nb y ≠ 0 → nb r = amt sg n (nb x) % amt sg n (nb y) := fun hn => by
    have := (w5 (by rw [v3]; exact amt_pos hy hn)).2
    rw [this, u3, v3]
  cases sg
  · have m := mask_law (by rw [w2.len, w4]) eb g3 w2 (hb.gr gA) (by omega)
    refine ⟨m.good, gA.trans m.gr (by omega), ?_⟩
    obtain ⟨zs, z1, z2, z3⟩ := m.vals
    refine ⟨zs, z1, z2, ?_⟩
    rw [z3]
    by_cases hn : nb y = 0
    · simp [hn]
    · simp only [hn, if_false]; rw [hv hn]; rfl
  · have c1 := choose_opp (by rw [w2.len, w4]) g3 w2 ((topF_wi ha (by omega)).gr gA) (by omega)
    obtain ⟨cs, c2, c3, c4⟩ := c1.vals
    have l5 := c1.gr.len
    have gB := gA.trans c1.gr (Nat.le_refl _)
    have m := mask_law (by rw [c2.len, c3]) eb c1.good c2 (hb.gr gB) (by omega)
    refine ⟨m.good, gB.trans m.gr (by omega), ?_⟩
    obtain ⟨zs, z1, z2, z3⟩ := m.vals
    refine ⟨zs, z1, z2, ?_⟩
    rw [z3]
    by_cases hn : nb y = 0
    · simp [hn]
    · simp only [hn, if_false]; rw [c4, hv hn, e]; rfl
theorem add_law {ins : List Bool} {s : BSt} {a b : List Nat} {x y : List Bool} {n : Nat} (e : a.length = n) (eb : b.length = n) (h : Good ins s) (ha : Ws ins s a x) (hb : Ws ins s b y) (hl : s.gs.length + (9 * n + 1) ≤ 200000) :
    Rn ins s (9 * n + 1) (addF s a b) n ((nb x + nb y) % 2 ^ n) := by
  have z := zero_law h (by omega)
  have l1 := z.gr.len
  have t := sum_law a b x y _ _ false z.good (ha.gr z.gr) (hb.gr z.gr) z.wi (by omega) (by omega)
  obtain ⟨zs, cy, w1, w2, w3, w4⟩ := t.vals
  refine ⟨t.good, z.gr.trans t.gr (by omega), zs, w1, by omega, ?_⟩
  have n4 := nb_lt zs
  rw [Bool.toNat_false, Nat.add_zero, e] at w4
  rw [w3, e] at n4
  rw [← w4, Nat.add_mul_mod_self_left, Nat.mod_eq_of_lt n4]
theorem sub_law {ins : List Bool} {s : BSt} {a b : List Nat} {x y : List Bool} {n : Nat} (e : a.length = n) (eb : b.length = n) (h : Good ins s) (ha : Ws ins s a x) (hb : Ws ins s b y) (hl : s.gs.length + (9 * n + 1) ≤ 200000) :
    Rn ins s (9 * n + 1) (subF s a b) n ((nb x + (2 ^ n - nb y)) % 2 ^ n) := by
  have t := less_law h ha hb (by omega) (by omega)
  obtain ⟨zs, cy, w1, w2, w3, w4, w5, w6⟩ := t.vals
  have n4 := nb_lt zs
  have n2 := nb_lt y
  have n3 := nb_lt x
  rw [w3, e] at n4
  rw [← hb.len, eb] at n2
  rw [← ha.len, e] at n3
  rw [e] at w6
  refine ⟨t.good, t.gr.mono (by omega), zs, w1, by omega, ?_⟩
  by_cases hc : nb y ≤ nb x
  · rw [w5 hc, show nb x + (2 ^ n - nb y) = nb x - nb y + 2 ^ n by omega, Nat.add_mod_right, Nat.mod_eq_of_lt (by omega)]
  · have := w6 (by omega)
    rw [show nb x + (2 ^ n - nb y) = nb zs by omega, Nat.mod_eq_of_lt n4]
theorem bool_law {ins : List Bool} {s : BSt} {f : BSt → Nat → Nat → BR} {c n : Nat} {g : Bool → Bool → Bool} (hf : FnLaw ins s f c g) {a b : List Nat} {x y : List Bool} (e : a.length = n) (eb : b.length = n) (h : Good ins s) (ha : Ws ins s a x) (hb : Ws ins s b y) (hl : s.gs.length + c * n ≤ 200000) :
    Rl ins s (c * n) (eachF f s a b) (List.zipWith g x y) := by
  subst e
  exact each_law hf a b x y s 0 (Gr.refl s 0) h ha hb (by omega) hl
theorem imp_law {ins : List Bool} {s : BSt} {a b : List Nat} {x y : List Bool} (e : a.length = 1) (eb : b.length = 1) (h : Good ins s) (ha : Ws ins s a x) (hb : Ws ins s b y) (hl : s.gs.length + 1 ≤ 200000) :
    Rl ins s 1 (impF s a b) [!(x.getD 0 false) || y.getD 0 false] := by
  have t := or_law h (ha.getD 0 (by omega)).flip (hb.getD 0 (by omega)) hl
  exact ⟨t.good, t.gr, Ws.cons t.wi (Ws.nil _ _)⟩
theorem zip_xor : ∀ (x y : List Bool), x.length = y.length → (nb (List.zipWith (· ^^ ·) x y) = 0 ↔ nb x = nb y)
  | [], [], _ => by simp [nb]
  | [], _ :: _, h => by simp at h
  | _ :: _, [], h => by simp at h
  | a :: x, b :: y, h => by
    have := zip_xor x y (by simpa using h)
    rw [List.zipWith_cons_cons, nb, nb, nb]
    cases a <;> cases b <;> simp <;> omega
theorem ne_law {ins : List Bool} {s : BSt} {a b : List Nat} {x y : List Bool} {n : Nat} (e : a.length = n) (eb : b.length = n) (h : Good ins s) (ha : Ws ins s a x) (hb : Ws ins s b y) (hl : s.gs.length + (4 * n + 1) ≤ 200000) :
    Rl ins s (4 * n + 1) (neF s a b) [decide (nb x ≠ nb y)] := by
  have p := bool_law (fn_xor ins s) e eb h ha hb (by omega)
  have l1 := p.gr.len
  have lz : (bxorF s a b).2.length = n := by have h9 := p.ws.len; rw [List.length_zipWith, ← ha.len, ← hb.len] at h9; unfold bxorF; omega
  have t := any_law p.good p.ws (by have := p.ws.len; rw [List.length_zipWith, ← ha.len, ← hb.len] at this; omega)
  have tg := t.gr
  have e2 : (eachF xorF s a b).2.length = n := lz
  rw [e2] at tg
  refine ⟨t.good, p.gr.trans tg (by omega), ?_⟩
  have h3 := t.wi
  have e3 : decide (nb (List.zipWith (· ^^ ·) x y) ≠ 0) = decide (nb x ≠ nb y) := by
    have := zip_xor x y (by rw [← ha.len, ← hb.len]; omega)
    by_cases hc : nb x = nb y
    · rw [hc] at this; simp [this.2, hc]
    · have h4 : ¬ nb (List.zipWith (· ^^ ·) x y) = 0 := fun e => hc (this.1 e)
      simp [h4, hc]
  rw [e3] at h3
  exact Ws.cons h3 (Ws.nil _ _)
theorem notL_law {ins : List Bool} {s : BSt} {c : Nat} {r : BL} {x : Bool} (h : Rl ins s c r [x]) : Rl ins s c (notL r) [!x] := ⟨h.good, h.gr, h.ws.flip⟩
theorem sv_le {x y : List Bool} {n : Nat} (hx : x.length = n) (hy : y.length = n) (h0 : 0 < n) (sg : Bool) :
    sv sg n (nb y) ≤ sv sg n (nb x) ↔ if sg then nb (y.take (n - 1) ++ [x.getD (n - 1) false]) ≤ nb (x.take (n - 1) ++ [y.getD (n - 1) false]) else nb y ≤ nb x := by
  cases sg
  · simp [sv]
  · have tx := top_bit hx h0
    have ty := top_bit hy h0
    have l1 := nb_lt x
    have l2 := nb_lt y
    rw [hx] at l1
    rw [hy] at l2
    have ep : (2 : Nat) ^ n = 2 * 2 ^ (n - 1) := by rw [← Nat.pow_succ', show (n - 1).succ = n by omega]
    have ep2 : (2 : Int) ^ n = 2 * ((2 ^ (n - 1) : Nat) : Int) := by
      have h9 : ((2 ^ n : Nat) : Int) = ((2 * 2 ^ (n - 1) : Nat) : Int) := by rw [ep]
      push_cast at h9 ⊢
      exact h9
    rw [if_pos rfl, nb_append, nb_append, nb_take, nb_take, List.length_take, List.length_take, hx, hy, show min (n - 1) n = n - 1 by omega, tx, ty]
    unfold sv
    rw [ep] at l1 l2
    rw [ep2]
    have hp : 0 < 2 ^ (n - 1) := Nat.pow_pos (by decide)
    generalize 2 ^ (n - 1) = P at *
    have m1 : nb x % P = if P ≤ nb x then nb x - P else nb x := by
      split
      · rw [Nat.mod_eq_sub_mod (by assumption), Nat.mod_eq_of_lt (by omega)]
      · exact Nat.mod_eq_of_lt (by omega)
    have m2 : nb y % P = if P ≤ nb y then nb y - P else nb y := by
      split
      · rw [Nat.mod_eq_sub_mod (by assumption), Nat.mod_eq_of_lt (by omega)]
      · exact Nat.mod_eq_of_lt (by omega)
    rw [m1, m2]
    by_cases hcx : P ≤ nb x <;> by_cases hcy : P ≤ nb y <;> simp [hcx, hcy, nb] <;> omega
theorem ge_law {ins : List Bool} {s : BSt} {a b : List Nat} {x y : List Bool} {n : Nat} {sg : Bool} (e : a.length = n) (eb : b.length = n) (h0 : 0 < n) (h : Good ins s) (ha : Ws ins s a x) (hb : Ws ins s b y) (hl : s.gs.length + (9 * n + 1) ≤ 200000) :
    Rl ins s (9 * n + 1) (geF sg s a b) [decide (sv sg n (nb y) ≤ sv sg n (nb x))] := by
  have lx : x.length = n := by rw [← ha.len, e]
  have ly : y.length = n := by rw [← hb.len, eb]
  have hs := sv_le lx ly h0 sg
  cases sg
  · have t := less_law h ha hb (by omega) (by omega)
    obtain ⟨zs, cy, w1, w2, w3, w4, w5, w6⟩ := t.vals
    refine ⟨t.good, t.gr.mono (by omega), Ws.cons (y := _) ?_ (Ws.nil _ _)⟩
    have h2 := w2
    rw [w4] at h2
    have : decide (nb y ≤ nb x) = decide (sv false n (nb y) ≤ sv false n (nb x)) := by
      rw [decide_eq_decide]; simpa using hs.symm
    rw [this] at h2
    exact h2
  · have h1 : Ws ins s (a.take (a.length - 1) ++ [b.getD (a.length - 1) 0]) (x.take (n - 1) ++ [y.getD (n - 1) false]) := by
      rw [e]; exact (ha.take _).append (Ws.cons (hb.getD (n - 1) (by omega)) (Ws.nil _ _))
    have h2 : Ws ins s (b.take (a.length - 1) ++ [a.getD (a.length - 1) 0]) (y.take (n - 1) ++ [x.getD (n - 1) false]) := by
      rw [e]; exact (hb.take _).append (Ws.cons (ha.getD (n - 1) (by omega)) (Ws.nil _ _))
    have l1 : (a.take (a.length - 1) ++ [b.getD (a.length - 1) 0]).length = n := by simp; omega
    have l2 : (b.take (a.length - 1) ++ [a.getD (a.length - 1) 0]).length = n := by simp; omega
    have t := less_law h h1 h2 (by rw [l1, l2]) (by rw [l1]; omega)
    obtain ⟨zs, cy, w1, w2, w3, w4, w5, w6⟩ := t.vals
    have tg := t.gr
    rw [l1] at tg
    refine ⟨t.good, tg, Ws.cons (y := _) ?_ (Ws.nil _ _)⟩
    have h3 := w2
    rw [w4] at h3
    rw [if_pos rfl] at hs
    have : decide (nb (y.take (n - 1) ++ [x.getD (n - 1) false]) ≤ nb (x.take (n - 1) ++ [y.getD (n - 1) false])) = decide (sv true n (nb y) ≤ sv true n (nb x)) := by
      rw [decide_eq_decide]; exact hs.symm
    rw [this] at h3
    exact h3
end Go.Proofs.YtdjnekcpeaadhaaGreat
namespace Go.Proofs.YtdjnekcpeaadhaaGreat

/-- One step of a move. -/
def mvS (x y : List Bool) (i : Bool) (k : Nat) : List Bool := if y.getD k false then List.replicate (2 ^ k) i ++ x.take (x.length - 2 ^ k) else x
def mvG : Nat → List Bool → List Bool → Bool → Nat → List Bool × Nat
  | 0, x, _, _, k => (x, k)
  | n + 1, x, y, i, k => if 2 ^ k < x.length then mvG n (mvS x y i k) y i (k + 1) else (x, k)
/-- A move. -/
def mvF (x y : List Bool) (i : Bool) : List Bool := if nb (y.drop (mvG 64 x y i 0).2) ≠ 0 then List.replicate x.length i else (mvG 64 x y i 0).1
theorem mvS_len (x y : List Bool) (i : Bool) (k : Nat) (h : 2 ^ k < x.length) : (mvS x y i k).length = x.length := by
  unfold mvS; split
  · simp; omega
  · rfl
theorem movS_law {ins : List Bool} {s : BSt} {a b : List Nat} {x y : List Bool} {w k n : Nat} {i : Bool} (e : a.length = n) (eb : b.length = n) (hk : 2 ^ k < n) (h : Good ins s) (ha : Ws ins s a x) (hb : Ws ins s b y) (hw : Wi ins s w i) (hl : s.gs.length + 3 * n ≤ 200000) :
    Rl ins s (3 * n) (movS s a b w k) (mvS x y i k) := by
  have hkn : k < n := Nat.lt_trans Nat.lt_two_pow_self hk
  have h1 := choose_law h (hb.getD k (by omega)) ((Ws.rep hw (2 ^ k)).append (ha.take (a.length - 2 ^ k))) ha (by simp; omega) (by simp; omega)
  have e1 : (List.replicate (2 ^ k) w ++ a.take (a.length - 2 ^ k)).length = n := by simp; omega
  rw [e1] at h1
  rw [ha.len] at h1
  unfold mvS
  unfold movS
  rw [ha.len]
  exact h1
theorem movG_law {ins : List Bool} {b : List Nat} {y : List Bool} {w n : Nat} {i : Bool} (eb : b.length = n) : ∀ (m : Nat) (s : BSt) (a : List Nat) (x : List Bool) (k : Nat), a.length = n → Good ins s → Ws ins s a x → Ws ins s b y → Wi ins s w i → s.gs.length + m * (3 * n) ≤ 200000 →
    Good ins (movG m s a b w k).1 ∧ Gr s (movG m s a b w k).1 (m * (3 * n)) ∧ Ws ins (movG m s a b w k).1 (movG m s a b w k).2.1 (mvG m x y i k).1 ∧ (movG m s a b w k).2.2 = (mvG m x y i k).2 ∧ (mvG m x y i k).1.length = n
  | 0, s, a, x, k, e, h, ha, _, _, _ => ⟨h, Gr.refl s _, ha, rfl, by show x.length = n; rw [← ha.len, e]⟩
  | m + 1, s, a, x, k, e, h, ha, hb, hw, hl => by
    rw [Nat.succ_mul] at hl ⊢
    have lx : x.length = n := by rw [← ha.len, e]
    unfold movG mvG
    rw [e, lx]
    by_cases hk : 2 ^ k < n
    · rw [if_pos hk, if_pos hk]
      have h1 := movS_law e eb hk h ha hb hw (by omega)
      have l1 := h1.gr.len
      have h2 := movG_law eb m (movS s a b w k).1 (movS s a b w k).2 (mvS x y i k) (k + 1) (by rw [h1.ws.len, mvS_len x y i k (by omega), lx]) h1.good h1.ws (hb.gr h1.gr) (hw.gr h1.gr) (by omega)
      exact ⟨h2.1, h1.gr.trans h2.2.1 (by omega), h2.2.2⟩
    · rw [if_neg hk, if_neg hk]
      exact ⟨h, Gr.refl s _, ha, rfl, lx⟩
theorem movF_law {ins : List Bool} {s : BSt} {a b : List Nat} {x y : List Bool} {w n : Nat} {i : Bool} (e : a.length = n) (eb : b.length = n) (h : Good ins s) (ha : Ws ins s a x) (hb : Ws ins s b y) (hw : Wi ins s w i) (hl : s.gs.length + (196 * n + 1) ≤ 200000) :
    Rl ins s (196 * n + 1) (movF s a b w) (mvF x y i) := by
  have h1 := movG_law eb 64 s a x 0 e h ha hb hw (by omega)
  obtain ⟨g1, r1, w1, e1, e2⟩ := h1
  have l1 := r1.len
  have hb1 := hb.gr r1
  have hd := hb1.drop (movG 64 s a b w 0).2.2
  have q := any_law g1 hd (by rw [List.length_drop]; omega)
  have l2 := q.gr.len
  have g2 := r1.trans q.gr (Nat.le_refl _)
  have c := choose_law q.good q.wi (Ws.rep (hw.gr g2) a.length) (w1.gr q.gr) (by rw [List.length_replicate, w1.len, e2, e]) (by rw [List.length_replicate]; rw [List.length_drop] at l2; omega)
  have cg := c.gr
  rw [List.length_replicate] at cg
  have hm : mvF x y i = if decide (nb (y.drop (movG 64 s a b w 0).2.2) ≠ 0) = true then List.replicate a.length i else (mvG 64 x y i 0).1 := by
    unfold mvF
    rw [e1, ha.len]
    by_cases hc : nb (y.drop (mvG 64 x y i 0).2) = 0 <;> simp [hc]
  rw [hm]
  refine ⟨c.good, g2.trans cg ?_, c.ws⟩
  rw [List.length_drop]
  omega
/-- How far the steps go. -/
theorem mvG_end (y : List Bool) (i : Bool) : ∀ (m : Nat) (x : List Bool) (k : Nat), x.length ≤ 2 ^ (m + k) → x.length ≤ 2 ^ (mvG m x y i k).2
  | 0, x, k, h => by simpa [mvG] using h
  | m + 1, x, k, h => by
    unfold mvG
    split
    · rename_i hk
      have hl := mvS_len x y i k hk
      rw [← hl]
      exact mvG_end y i m _ (k + 1) (by rw [hl]; rw [show m + (k + 1) = m + 1 + k by omega]; exact h)
    · rename_i hk
      show x.length ≤ 2 ^ k
      omega
theorem bit_mod (y : List Bool) (k : Nat) : nb y % 2 ^ (k + 1) = nb y % 2 ^ k + 2 ^ k * (y.getD k false).toNat := by rw [nb_bit, Nat.pow_succ, Nat.mod_mul]
/-- Up, with noughts. -/
theorem mvG_up (y : List Bool) (X n : Nat) : ∀ (m : Nat) (x : List Bool) (k : Nat), x.length = n → nb x = X * 2 ^ (nb y % 2 ^ k) % 2 ^ n → nb (mvG m x y false k).1 = X * 2 ^ (nb y % 2 ^ (mvG m x y false k).2) % 2 ^ n
  | 0, x, k, _, h => h
  | m + 1, x, k, hl, h => by
    unfold mvG
    split
    · rename_i hk
      refine mvG_up y X n m _ (k + 1) (by rw [mvS_len x y false k hk, hl]) ?_
      rw [bit_mod]
      unfold mvS
      cases hb : y.getD k false
      · simp [h]
      · rw [if_pos rfl, nb_append, nb_false, nb_take, List.length_replicate, Nat.zero_add, Bool.toNat_true, Nat.mul_one, Nat.pow_add, ← Nat.mul_assoc, h, hl]
        have e2 : (2 : Nat) ^ n = 2 ^ (n - 2 ^ k) * 2 ^ (2 ^ k) := by rw [← Nat.pow_add, show n - 2 ^ k + 2 ^ k = n by omega]
        rw [Nat.mod_mod_of_dvd _ (by rw [e2]; exact Nat.dvd_mul_right _ _), e2, Nat.mul_mod_mul_right, Nat.mul_comm]
    · exact h
theorem mv_up (x y : List Bool) (n : Nat) (hx : x.length = n) (hn : n ≤ 64) : nb (mvF x y false) = nb x * 2 ^ nb y % 2 ^ n := by
  have h1 := mvG_up y (nb x) n 64 x 0 hx (by rw [Nat.pow_zero, Nat.mod_one, Nat.pow_zero, Nat.mul_one, Nat.mod_eq_of_lt]; have := nb_lt x; rw [hx] at this; exact this)
  have h2 := mvG_end y false 64 x 0 (by have : 64 ≤ 2 ^ (64 + 0) := by decide
                                        omega)
  unfold mvF
  generalize mvG 64 x y false 0 = r at *
  rw [nb_drop]
  split
  · rename_i hc
    rw [nb_false]
    have h3 : 2 ^ r.2 ≤ nb y := by
      refine Decidable.byContradiction fun h => hc (Nat.div_eq_of_lt (by omega))
    have e : (2 : Nat) ^ nb y = 2 ^ (nb y - n) * 2 ^ n := by rw [← Nat.pow_add, show nb y - n + n = nb y by omega]
    rw [e, ← Nat.mul_assoc, Nat.mul_mod_left]
  · rename_i hc
    have h3 : nb y < 2 ^ r.2 := by
      rcases Nat.lt_or_ge (nb y) (2 ^ r.2) with h | h
      · exact h
      · exact absurd (Nat.div_pos h (Nat.pow_pos (by decide))) (by omega)
    rw [h1, Nat.mod_eq_of_lt h3]
/-- What a list is short of where ones come in. -/
def sho (n : Nat) (i : Bool) (N : Nat) : Int := (N : Int) - if i then 2 ^ n else 0
theorem rep_nb (n : Nat) (i : Bool) : sho n i (nb (List.replicate n i)) = if i then -1 else 0 := by
  unfold sho
  cases i
  · simp [nb_false]
  · have h := nb_true n
    have h2 : ((nb (List.replicate n true) + 1 : Nat) : Int) = ((2 ^ n : Nat) : Int) := by rw [h]
    push_cast at h2
    simp only [if_true]
    omega
/-- Down. -/
theorem mvS_down (x y : List Bool) (i : Bool) (k n : Nat) (hl : x.length = n) (hk : 2 ^ k < n) (hb : y.getD k false = true) : sho n i (nb (mvS x y i k).reverse) = sho n i (nb x.reverse) / 2 ^ (2 ^ k) := by
  unfold mvS
  rw [if_pos hb, List.reverse_append, List.reverse_replicate, hl]
  have e1 : (x.take (n - 2 ^ k)).reverse = x.reverse.drop (2 ^ k) := by
    rw [List.reverse_take, hl, Nat.sub_sub_self (Nat.le_of_lt hk)]
  rw [e1, nb_append, nb_drop, List.length_drop, List.length_reverse, hl]
  generalize nb x.reverse = A
  unfold sho
  cases i
  · simp [nb_false]
  · have h := nb_true (2 ^ k)
    obtain ⟨P, hP⟩ : ∃ P, P = (2 : Nat) ^ (2 ^ k) := ⟨_, rfl⟩
    obtain ⟨D, hD⟩ : ∃ D, D = (2 : Nat) ^ (n - 2 ^ k) := ⟨_, rfl⟩
    have e2 : (2 : Nat) ^ n = D * P := by rw [hP, hD, ← Nat.pow_add, show n - 2 ^ k + 2 ^ k = n by omega]
    have e3 : ((2 : Int) ^ n) = (D : Int) * (P : Int) := by
      have : ((2 ^ n : Nat) : Int) = ((D * P : Nat) : Int) := by rw [e2]
      push_cast at this
      exact this
    have e4 : ((2 : Int) ^ (2 ^ k)) = (P : Int) := by rw [hP]; push_cast; rfl
    have hP0 : 0 < P := by rw [hP]; exact Nat.pow_pos (by decide)
    rw [← hP] at h ⊢
    rw [← hD]
    simp only [if_true]
    rw [e3, e4]
    have e5 : nb (List.replicate (2 ^ k) true) = P - 1 := by omega
    rw [e5]
    have e6 : ((A / P + D * (P - 1) : Nat) : Int) - (D : Int) * (P : Int) = (A : Int) / (P : Int) - (D : Int) := by
      have : D * (P - 1) + D = D * P := by rw [← Nat.mul_succ, Nat.succ_eq_add_one, Nat.sub_add_cancel hP0]
      have h8 : ((D * (P - 1) + D : Nat) : Int) = ((D * P : Nat) : Int) := by rw [this]
      push_cast at h8 ⊢
      omega
    rw [e6]
    show (A : Int) / (P : Int) - (D : Int) = ((A : Int) + -((D : Int) * (P : Int))) / (P : Int)
    rw [← Int.neg_mul, Int.add_mul_ediv_right _ _ (by omega)]
    omega
theorem mvG_down (y : List Bool) (X : Int) (n : Nat) (i : Bool) : ∀ (m : Nat) (x : List Bool) (k : Nat), x.length = n → sho n i (nb x.reverse) = X / 2 ^ (nb y % 2 ^ k) → sho n i (nb (mvG m x y i k).1.reverse) = X / 2 ^ (nb y % 2 ^ (mvG m x y i k).2)
  | 0, x, k, _, h => h
  | m + 1, x, k, hl, h => by
    unfold mvG
    split
    · rename_i hk
      refine mvG_down y X n i m _ (k + 1) (by rw [mvS_len x y i k hk, hl]) ?_
      rw [bit_mod]
      cases hb : y.getD k false
      · unfold mvS
        rw [hb]
        simpa using h
      · rw [mvS_down x y i k n hl (by omega) hb, h, Bool.toNat_true, Nat.mul_one, Int.pow_add, Int.ediv_ediv, if_neg (fun h9 => absurd h9.1 (Int.not_lt.2 (Int.le_of_lt (Int.pow_pos (by decide))))), Int.sub_zero]
    · exact h
theorem mv_down (x y : List Bool) (n : Nat) (i : Bool) (hx : x.length = n) (hn : n ≤ 64) : sho n i (nb (mvF x.reverse y i).reverse) = sho n i (nb x) / 2 ^ nb y := by
  have hr : x.reverse.length = n := by rw [List.length_reverse, hx]
  have h1 := mvG_down y (sho n i (nb x)) n i 64 x.reverse 0 hr (by rw [List.reverse_reverse, Nat.pow_zero, Nat.mod_one, Int.pow_zero, Int.ediv_one])
  have h2 := mvG_end y i 64 x.reverse 0 (by have : 64 ≤ 2 ^ (64 + 0) := by decide
                                            omega)
  have hlt := nb_lt x
  rw [hx] at hlt
  unfold mvF
  generalize mvG 64 x.reverse y i 0 = r at *
  rw [nb_drop, hr]
  split
  · rename_i hc
    rw [List.reverse_replicate, rep_nb]
    have h3 : 2 ^ r.2 ≤ nb y := by
      refine Decidable.byContradiction fun h => hc (Nat.div_eq_of_lt (by omega))
    have h4 : (2 : Nat) ^ n ≤ 2 ^ nb y := Nat.pow_le_pow_right (by decide) (by omega)
    have h5 : ((2 ^ n : Nat) : Int) ≤ ((2 ^ nb y : Nat) : Int) := Int.ofNat_le.2 h4
    have h6 : (nb x : Int) < ((2 ^ n : Nat) : Int) := Int.ofNat_lt.2 hlt
    push_cast at h5 h6
    have hp : (0 : Int) < 2 ^ nb y := Int.pow_pos (by decide)
    unfold sho
    cases i
    · simp only [Bool.false_eq_true, if_false, Int.sub_zero]
      exact (Int.ediv_eq_zero_of_lt (by omega) (by omega)).symm
    · simp only [if_true]
      have := (Int.ediv_emod_unique (a := (nb x : Int) - 2 ^ n) (r := (nb x : Int) - 2 ^ n + 2 ^ nb y) (q := -1) hp).2 ⟨by omega, by omega, by omega⟩
      exact this.1.symm
  · rename_i hc
    have h3 : nb y < 2 ^ r.2 := by
      rcases Nat.lt_or_ge (nb y) (2 ^ r.2) with h | h
      · exact h
      · exact absurd (Nat.div_pos h (Nat.pow_pos (by decide))) (by omega)
    rw [h1, Nat.mod_eq_of_lt h3]
theorem mvF_len (x y : List Bool) (i : Bool) : (mvF x y i).length = x.length := by
  have : ∀ (m : Nat) (x : List Bool) (k : Nat), (mvG m x y i k).1.length = x.length := by
    intro m
    induction m with
    | zero => intro x k; rfl
    | succ m ih =>
      intro x k
      unfold mvG
      split
      · rename_i hk; rw [ih, mvS_len x y i k hk]
      · rfl
  unfold mvF
  split
  · simp
  · exact this 64 x 0
theorem shl_law {ins : List Bool} {s : BSt} {a b : List Nat} {x y : List Bool} {n : Nat} (e : a.length = n) (eb : b.length = n) (hn : n ≤ 64) (h : Good ins s) (ha : Ws ins s a x) (hb : Ws ins s b y) (hl : s.gs.length + (196 * n + 2) ≤ 200000) :
    Rn ins s (196 * n + 2) (shlF s a b) n (nb x * 2 ^ nb y % 2 ^ n) := by
  have z := zero_law h (by omega)
  have l1 := z.gr.len
  have t := movF_law e eb z.good (ha.gr z.gr) (hb.gr z.gr) z.wi (by omega)
  exact ⟨t.good, z.gr.trans t.gr (by omega), _, t.ws, by rw [mvF_len, ← ha.len, e], mv_up x y n (by rw [← ha.len, e]) hn⟩
theorem shr_law {ins : List Bool} {s : BSt} {a b : List Nat} {x y : List Bool} {n : Nat} {sg : Bool} (e : a.length = n) (eb : b.length = n) (h0 : 0 < n) (hn : n ≤ 64) (h : Good ins s) (ha : Ws ins s a x) (hb : Ws ins s b y) (hl : s.gs.length + (196 * n + 2) ≤ 200000) :
    ∃ N : Nat, Rn ins s (196 * n + 2) (shrF sg s a b) n N ∧ sho n (sg && decide (2 ^ (n - 1) ≤ nb x)) N = sv sg n (nb x) / 2 ^ nb y := by
  have z := zero_law h (by omega)
  have l1 := z.gr.len
  have lx : x.length = n := by rw [← ha.len, e]
  have hi : Wi ins (zeroF s).1 (if sg then topF a else (zeroF s).2) (sg && decide (2 ^ (n - 1) ≤ nb x)) := by
    cases sg
    · exact z.wi
    · have := (topF_wi ha (by omega)).gr z.gr
      rw [e] at this
      exact this
  have t := movF_law (by rw [List.length_reverse, e]) eb z.good (ha.gr z.gr).reverse (hb.gr z.gr) hi (by omega)
  refine ⟨_, ⟨t.good, z.gr.trans t.gr (by omega), _, t.ws.reverse, by rw [List.length_reverse, mvF_len, List.length_reverse, lx], rfl⟩, ?_⟩
  rw [mv_down x y n _ lx hn]
  congr 1
  unfold sho sv
  cases sg
  · simp
  · by_cases hc : 2 ^ (n - 1) ≤ nb x <;> simp [hc]
end Go.Proofs.YtdjnekcpeaadhaaGreat
namespace Go.Proofs.YtdjnekcpeaadhaaGreat
open Go.RowKit
set_option linter.unusedSimpArgs false
set_option linter.unusedVariables false
set_option maxRecDepth 100000

theorem add_self_mod (a M : Int) : (a + M) % M = a % M := by simp
theorem natCast_two (n : Nat) : ((2 ^ n : Nat) : Int) = (2 : Int) ^ n := by push_cast; rfl
theorem bitI_nb (z : List Bool) (i : Nat) : bitI (nb z : Int) i = if z.getD i false then 1 else 0 := by
  have h := nb_bit z i
  have e : bitI (nb z : Int) i = ((nb z / 2 ^ i % 2 : Nat) : Int) := by unfold bitI; push_cast; rfl
  rw [e, ← h]
  cases z.getD i false <;> rfl
/-- Bits that show a value. -/
structure Shows (k A : Int) (x : List Bool) : Prop where
  len : x.length = wid k
  val : (nb x : Int) = A % 2 ^ wid k
  is : isk k A = true
  i64 : I64 A
theorem Shows.pos {k A : Int} {x : List Bool} (h : Shows k A x) : 0 < wid k := (isk_iff.1 h.is).1
theorem Shows.lt {k A : Int} {x : List Bool} (h : Shows k A x) : nb x < 2 ^ wid k := by rw [← h.len]; exact nb_lt x
theorem modN {N : Nat} {V : Int} {n : Nat} (hN : N < 2 ^ n) (h : (N : Int) % 2 ^ n = V % 2 ^ n) : (N : Int) = V % 2 ^ n := by
  have h1 : (N : Int) < ((2 ^ n : Nat) : Int) := Int.ofNat_lt.2 hN
  rw [natCast_two] at h1
  rw [← h, Int.emod_eq_of_lt (by omega) h1]
/-- The number that is shown, as a value of its kind. -/
theorem Shows.sv {k A : Int} {x : List Bool} (h : Shows k A x) (h9 : k ≠ 9) : sv (sgn k) (wid k) (nb x) = A := by
  have hv := h.val
  have hi := (isk_iff.1 h.is).2
  unfold Go.Proofs.YtdjnekcpeaadhaaGreat.sv
  rcases kinds k with rfl | rfl | rfl | rfl | rfl | rfl | rfl | rfl | rfl | hk
  · rw [wid_1, pow_1] at hv; rw [wkr_1] at hi; simp [sgn]; omega
  · rw [wid_2, pow_8] at hv; rw [wkr_2] at hi
    rw [wid_2, pow_8]
    have : sgn 2 = true := by decide
    rw [this]
    simp only [true_and, show (2 : Nat) ^ (8 - 1) = 128 by decide]
    split <;> omega
  · rw [wid_3, pow_16] at hv; rw [wkr_3] at hi
    rw [wid_3, pow_16]
    have : sgn 3 = true := by decide
    rw [this]
    simp only [true_and, show (2 : Nat) ^ (16 - 1) = 32768 by decide]
    split <;> omega
  · rw [wid_4, pow_32] at hv; rw [wkr_4] at hi
    rw [wid_4, pow_32]
    have : sgn 4 = true := by decide
    rw [this]
    simp only [true_and, show (2 : Nat) ^ (32 - 1) = 2147483648 by decide]
    split <;> omega
  · have h6 := h.i64
    unfold I64 at h6
    rw [wid_5, pow_64] at hv
    rw [wid_5, pow_64]
    have : sgn 5 = true := by decide
    rw [this]
    simp only [true_and, show (2 : Nat) ^ (64 - 1) = 9223372036854775808 by decide]
    split <;> omega
  · rw [wid_6, pow_8] at hv; rw [wkr_6] at hi; simp [sgn]; omega
  · rw [wid_7, pow_16] at hv; rw [wkr_7] at hi; simp [sgn]; omega
  · rw [wid_8, pow_32] at hv; rw [wkr_8] at hi; simp [sgn]; omega
  · exact absurd rfl h9
  · have := width_wid k; have := h.pos; omega
theorem Shows.sv9 {A : Int} {x : List Bool} (h : Shows 9 A x) : Go.Proofs.YtdjnekcpeaadhaaGreat.sv (sgn 9) (wid 9) (nb x) = A % 18446744073709551616 := by
  have hv := h.val
  rw [wid_9, pow_64] at hv
  have : sgn 9 = false := by decide
  unfold Go.Proofs.YtdjnekcpeaadhaaGreat.sv
  rw [this]
  simpa using hv
theorem sv_blw {k A B : Int} {x y : List Bool} (hx : Shows k A x) (hy : Shows k B y) : decide (sv (sgn k) (wid k) (nb y) ≤ sv (sgn k) (wid k) (nb x)) = !(blw k A B) := by
  by_cases h9 : k = 9
  · subst h9
    rw [hx.sv9, hy.sv9]
    simp only [blw, if_true, u64_eq]
    by_cases h : A % 18446744073709551616 < B % 18446744073709551616
    · simp [h]
    · simp [h]; omega
  · rw [hx.sv h9, hy.sv h9]
    simp only [blw, h9, if_false]
    by_cases h : A < B
    · simp [h]
    · simp [h]; omega
theorem shows_eq {k A B : Int} {x y : List Bool} (hx : Shows k A x) (hy : Shows k B y) : decide (nb x = nb y) = (A == B) := by
  by_cases h : A = B
  · subst h
    have := hx.val.trans hy.val.symm
    simp; omega
  · have : ¬ nb x = nb y := fun e => h (isk_ext hx.is hy.is hx.i64 hy.i64 (by rw [← hx.val, ← hy.val, e]))
    simp [this, h]
/-- What an operation's wires tell: a value of w wires. -/
def Tells (ins : List Bool) (s : BSt) (r : BL) (w : Nat) (V : Int) : Prop := ∃ N : Nat, Rn ins s 60000 r w N ∧ (N : Int) = V % 2 ^ w
theorem Rn.lt {ins : List Bool} {s : BSt} {c : Nat} {r : BL} {n N : Nat} (h : Rn ins s c r n N) : N < 2 ^ n := by
  obtain ⟨zs, -, h1, h2⟩ := h.vals
  rw [← h2, ← h1]; exact nb_lt zs
theorem Rn.tells {ins : List Bool} {s : BSt} {c : Nat} {r : BL} {n N : Nat} {V : Int} (h : Rn ins s c r n N) (hc : c ≤ 60000) (hv : (N : Int) % 2 ^ n = V % 2 ^ n) : Tells ins s r n V := ⟨N, h.mono hc, modN h.lt hv⟩
theorem Rl.bool {ins : List Bool} {s : BSt} {c : Nat} {r : BL} {b : Bool} (h : Rl ins s c r [b]) (hc : c ≤ 60000) : Tells ins s r 1 (tru b) := by
  refine (h.num).tells hc ?_
  cases b <;> rfl
theorem Rl.bits {ins : List Bool} {s : BSt} {c n : Nat} {r : BL} {z : List Bool} {V : Int} (h : Rl ins s c r z) (hc : c ≤ 60000) (hl : z.length = n) (hb : ∀ i, i < n → bitI V i = if z.getD i false then 1 else 0) : Tells ins s r n V := by
  subst hl
  exact h.num.tells hc (bits_ext fun i hi => by rw [bitI_nb, hb i hi])
theorem wkr_tells {ins : List Bool} {s : BSt} {r : BL} {k V : Int} (h : 0 < wid k) (ht : Tells ins s r (wid k) V) : Tells ins s r (wid k) (wkr k V) := by
  obtain ⟨N, h1, h2⟩ := ht
  exact ⟨N, h1, by rw [h2, wkr_mod V h]⟩
theorem wrap_tells {ins : List Bool} {s : BSt} {r : BL} {k V : Int} (ht : Tells ins s r (wid k) V) : Tells ins s r (wid k) (wrap64 V) := by
  obtain ⟨N, h1, h2⟩ := ht
  exact ⟨N, h1, by rw [h2, wrap64_modw V _ (wid_le k)]⟩
section
variable {ins : List Bool} {s : BSt} {a b : List Nat} {x y : List Bool} {k A B : Int}
theorem add_tells (hx : Shows k A x) (hy : Shows k B y) (h : Good ins s) (ha : Ws ins s a x) (hb : Ws ins s b y) (hl : s.gs.length + 60000 ≤ 200000) : Tells ins s (addF s a b) (wid k) (A + B) := by
  have h64 := wid_le k
  refine (add_law (by rw [ha.len, hx.len]) (by rw [hb.len, hy.len]) h ha hb (by omega)).tells (by omega) ?_
  push_cast
  rw [hx.val, hy.val, Int.emod_emod_of_dvd _ (Int.dvd_refl _)]
  exact add_congr (Int.emod_emod_of_dvd _ (Int.dvd_refl _)) (Int.emod_emod_of_dvd _ (Int.dvd_refl _))
theorem sub_tells (hx : Shows k A x) (hy : Shows k B y) (h : Good ins s) (ha : Ws ins s a x) (hb : Ws ins s b y) (hl : s.gs.length + 60000 ≤ 200000) : Tells ins s (subF s a b) (wid k) (A - B) := by
  have h64 := wid_le k
  have hlt := hy.lt
  refine (sub_law (by rw [ha.len, hx.len]) (by rw [hb.len, hy.len]) h ha hb (by omega)).tells (by omega) ?_
  have e : ((nb x + (2 ^ wid k - nb y) : Nat) : Int) = (nb x : Int) - (nb y : Int) + 2 ^ wid k := by
    have h1 : ((2 ^ wid k - nb y : Nat) : Int) = ((2 ^ wid k : Nat) : Int) - (nb y : Int) := Int.ofNat_sub (Nat.le_of_lt hlt)
    rw [Int.natCast_add, h1, natCast_two]; omega
  rw [Int.natCast_emod, e, natCast_two, add_self_mod, Int.emod_emod_of_dvd _ (Int.dvd_refl _), hx.val, hy.val]
  exact sub_congr (Int.emod_emod_of_dvd _ (Int.dvd_refl _)) (Int.emod_emod_of_dvd _ (Int.dvd_refl _))
theorem neg_tells (hx : Shows k A x) (h : Good ins s) (ha : Ws ins s a x) (hl : s.gs.length + 60000 ≤ 200000) : Tells ins s (negF s a) (wid k) (-A) := by
  have h64 := wid_le k
  have hlt := hx.lt
  have h1 := neg_law h ha (by rw [ha.len, hx.len]; omega)
  rw [ha.len, hx.len] at h1
  refine h1.tells (by omega) ?_
  have e : ((2 ^ wid k - nb x : Nat) : Int) = 0 - (nb x : Int) + 2 ^ wid k := by
    rw [Int.ofNat_sub (Nat.le_of_lt hlt), natCast_two]; omega
  rw [Int.natCast_emod, e, natCast_two, add_self_mod, Int.emod_emod_of_dvd _ (Int.dvd_refl _), hx.val, ← Int.zero_sub A]
  exact sub_congr rfl (Int.emod_emod_of_dvd _ (Int.dvd_refl _))
theorem mul_tells (hx : Shows k A x) (hy : Shows k B y) (h : Good ins s) (ha : Ws ins s a x) (hb : Ws ins s b y) (hl : s.gs.length + 60000 ≤ 200000) : Tells ins s (mulF s a b) (wid k) (A * B) := by
  have h64 := wid_le k
  have hc : wid k * (10 * wid k + 2) ≤ 64 * 642 := Nat.mul_le_mul h64 (by omega)
  refine (mul_law (by rw [ha.len, hx.len]) (by rw [hb.len, hy.len]) h ha hb (by omega)).tells (by omega) ?_
  push_cast
  rw [hx.val, hy.val, Int.emod_emod_of_dvd _ (Int.dvd_refl _)]
  exact mul_congr (Int.emod_emod_of_dvd _ (Int.dvd_refl _)) (Int.emod_emod_of_dvd _ (Int.dvd_refl _))
theorem zip_getB (f : Bool → Bool → Bool) (x y : List Bool) (i : Nat) (h1 : i < x.length) (h2 : i < y.length) : (List.zipWith f x y).getD i false = f (x.getD i false) (y.getD i false) := by
  simp [List.getD_eq_getElem?_getD, List.getElem?_zipWith, List.getElem?_eq_getElem h1, List.getElem?_eq_getElem h2]
theorem Shows.bit (hx : Shows k A x) (i : Nat) (hi : i < wid k) : bitI A i = if x.getD i false then 1 else 0 := by
  rw [← bitI_nb, hx.val, bitI_mod A (wid k) i hi]
theorem band_tells (hx : Shows k A x) (hy : Shows k B y) (h : Good ins s) (ha : Ws ins s a x) (hb : Ws ins s b y) (hl : s.gs.length + 60000 ≤ 200000) : Tells ins s (bandF s a b) (wid k) (bits .and .i64 A B) := by
  have h64 := wid_le k
  refine (bool_law (fn_and ins s) (by rw [ha.len, hx.len]) (by rw [hb.len, hy.len]) h ha hb (by omega)).bits (by omega) (by rw [List.length_zipWith, hx.len, hy.len]; omega) (fun i hi => ?_)
  rw [bitI_and A B i (by omega), hx.bit i hi, hy.bit i hi, zip_getB _ _ _ i (by rw [hx.len]; exact hi) (by rw [hy.len]; exact hi)]
  cases x.getD i false <;> cases y.getD i false <;> rfl
theorem bor_tells (hx : Shows k A x) (hy : Shows k B y) (h : Good ins s) (ha : Ws ins s a x) (hb : Ws ins s b y) (hl : s.gs.length + 60000 ≤ 200000) : Tells ins s (borF s a b) (wid k) (bits .or .i64 A B) := by
  have h64 := wid_le k
  refine (bool_law (fn_or ins s) (by rw [ha.len, hx.len]) (by rw [hb.len, hy.len]) h ha hb (by omega)).bits (by omega) (by rw [List.length_zipWith, hx.len, hy.len]; omega) (fun i hi => ?_)
  rw [bitI_or A B i (by omega), hx.bit i hi, hy.bit i hi, zip_getB _ _ _ i (by rw [hx.len]; exact hi) (by rw [hy.len]; exact hi)]
  cases x.getD i false <;> cases y.getD i false <;> rfl
theorem bxor_tells (hx : Shows k A x) (hy : Shows k B y) (h : Good ins s) (ha : Ws ins s a x) (hb : Ws ins s b y) (hl : s.gs.length + 60000 ≤ 200000) : Tells ins s (bxorF s a b) (wid k) (bits .xor .i64 A B) := by
  have h64 := wid_le k
  refine (bool_law (fn_xor ins s) (by rw [ha.len, hx.len]) (by rw [hb.len, hy.len]) h ha hb (by omega)).bits (by omega) (by rw [List.length_zipWith, hx.len, hy.len]; omega) (fun i hi => ?_)
  rw [bitI_xor A B i (by omega), hx.bit i hi, hy.bit i hi, zip_getB _ _ _ i (by rw [hx.len]; exact hi) (by rw [hy.len]; exact hi)]
  cases x.getD i false <;> cases y.getD i false <;> rfl
theorem inv_tells (hx : Shows k A x) (h : Good ins s) (ha : Ws ins s a x) : Tells ins s (invF s a) (wid k) (bits .xor .i64 (-1) A) := by
  have h64 := wid_le k
  refine (show Rl ins s 0 (invF s a) (x.map (!·)) from ⟨h, Gr.refl s 0, ha.flip⟩).bits (by omega) (by rw [List.length_map, hx.len]) (fun i hi => ?_)
  rw [bitI_xor _ _ i (by omega), bitI_neg1, hx.bit i hi]
  have e : (x.map (!·)).getD i false = !(x.getD i false) := by
    have hl : i < x.length := by rw [hx.len]; exact hi
    simp [List.getD_eq_getElem?_getD, List.getElem?_map, List.getElem?_eq_getElem hl]
  rw [e]
  cases x.getD i false <;> rfl
theorem ge_tells (hx : Shows k A x) (hy : Shows k B y) (h : Good ins s) (ha : Ws ins s a x) (hb : Ws ins s b y) (hl : s.gs.length + 60000 ≤ 200000) : Rl ins s 60000 (geF (sgn k) s a b) [!(blw k A B)] := by
  have h64 := wid_le k
  have h1 := ge_law (sg := sgn k) (by rw [ha.len, hx.len]) (by rw [hb.len, hy.len]) hx.pos h ha hb (by omega)
  rw [sv_blw hx hy] at h1
  exact ⟨h1.good, h1.gr.mono (by omega), h1.ws⟩
theorem lt_tells (hx : Shows k A x) (hy : Shows k B y) (h : Good ins s) (ha : Ws ins s a x) (hb : Ws ins s b y) (hl : s.gs.length + 60000 ≤ 200000) : Rl ins s 60000 (ltF (sgn k) s a b) [blw k A B] := by
  have h1 := notL_law (ge_tells hx hy h ha hb hl)
  rw [Bool.not_not] at h1
  exact h1
theorem ne_tells (hx : Shows k A x) (hy : Shows k B y) (h : Good ins s) (ha : Ws ins s a x) (hb : Ws ins s b y) (hl : s.gs.length + 60000 ≤ 200000) : Rl ins s 60000 (neF s a b) [A != B] := by
  have h64 := wid_le k
  have h1 := ne_law (n := wid k) (by rw [ha.len, hx.len]) (by rw [hb.len, hy.len]) h ha hb (by omega)
  have e : decide (nb x ≠ nb y) = (A != B) := by
    have := shows_eq hx hy
    by_cases hc : nb x = nb y <;> simp [hc] at this ⊢ <;> simpa [bne] using this
  rw [e] at h1
  exact ⟨h1.good, h1.gr.mono (by omega), h1.ws⟩
theorem eq_tells (hx : Shows k A x) (hy : Shows k B y) (h : Good ins s) (ha : Ws ins s a x) (hb : Ws ins s b y) (hl : s.gs.length + 60000 ≤ 200000) : Rl ins s 60000 (eqF s a b) [A == B] := by
  have h1 := notL_law (ne_tells hx hy h ha hb hl)
  have e : (!(A != B)) = (A == B) := by simp [bne]
  rw [e] at h1
  exact h1
end
end Go.Proofs.YtdjnekcpeaadhaaGreat
namespace Go.Proofs.YtdjnekcpeaadhaaGreat
open Go.RowKit
set_option linter.unusedSimpArgs false
set_option linter.unusedVariables false
set_option maxRecDepth 100000

theorem shl_tells {ins : List Bool} {s : BSt} {a b : List Nat} {x y : List Bool} {k A B : Int} (hx : Shows k A x) (hy : Shows k B y) (h : Good ins s) (ha : Ws ins s a x) (hb : Ws ins s b y) (hl : s.gs.length + 60000 ≤ 200000) : Tells ins s (shlF s a b) (wid k) (shlv k A k B) := by
  have h64 := wid_le k
  refine (shl_law (by rw [ha.len, hx.len]) (by rw [hb.len, hy.len]) h64 h ha hb (by omega)).tells (by omega) ?_
  unfold shlv
  rw [ubits_eq, ubits_eq, ← hx.val, ← hy.val, width_wid k, Int.toNat_natCast]
  push_cast
  rw [Int.emod_emod_of_dvd _ (Int.dvd_refl _)]
  split
  · rename_i hc
    have h1 : wid k ≤ nb y := by omega
    have e : (2 : Int) ^ nb y = 2 ^ (nb y - wid k) * 2 ^ wid k := by rw [← Int.pow_add, Nat.sub_add_cancel h1]
    rw [e, ← Int.mul_assoc, Int.mul_emod_left]; rfl
  · rw [wrap64_modw _ _ h64, u64_eq, ← pow_64, Int.emod_emod_of_dvd _ ⟨2 ^ (64 - wid k), by rw [← Int.pow_add, Nat.add_sub_cancel' h64]⟩]
theorem sho_mod (n : Nat) (i : Bool) (N : Nat) : sho n i N % 2 ^ n = (N : Int) % 2 ^ n := by
  unfold sho
  cases i
  · simp
  · simp
theorem shr_tells {ins : List Bool} {s : BSt} {a b : List Nat} {x y : List Bool} {k A B : Int} (hx : Shows k A x) (hy : Shows k B y) (h : Good ins s) (ha : Ws ins s a x) (hb : Ws ins s b y) (hl : s.gs.length + 60000 ≤ 200000) : Tells ins s (shrF (sgn k) s a b) (wid k) (shrv k A k B) := by
  have h64 := wid_le k
  obtain ⟨N, h1, h2⟩ := shr_law (sg := sgn k) (by rw [ha.len, hx.len]) (by rw [hb.len, hy.len]) hx.pos h64 h ha hb (by omega)
  refine h1.tells (by omega) ?_
  rw [← sho_mod _ (sgn k && decide (2 ^ (wid k - 1) ≤ nb x)), h2]
  have hlt := hx.lt
  unfold shrv shrBy
  rw [ubits_eq, ubits_eq, ← hx.val, ← hy.val, width_wid k]
  by_cases hs : sgn k = true
  · have h9 : k ≠ 9 := by rintro rfl; revert hs; decide
    rw [if_pos hs, hx.sv h9]
    split
    · rename_i hc
      obtain ⟨m, e1, e2, e3⟩ := signed_bd hx.i64 hs hx.is
      rw [ediv_sign e2 e3 (show m ≤ nb y by omega)]
      have : ((64 : Int)).toNat = 64 := rfl
      rw [this, ediv_sign e2 e3 (show m ≤ 64 by omega)]
    · rw [Int.toNat_natCast]
  · have hs2 : sgn k = false := by simpa using hs
    rw [if_neg hs, wrap64_modw _ _ h64]
    have e : sv (sgn k) (wid k) (nb x) = (nb x : Int) := by unfold sv; simp [hs2]
    rw [e]
    split
    · rename_i hc
      have h3 : nb x / 2 ^ nb y = 0 := Nat.div_eq_of_lt (Nat.lt_of_lt_of_le hlt (Nat.pow_le_pow_right (by decide) (by omega)))
      have h4 : nb x / 2 ^ 64 = 0 := Nat.div_eq_of_lt (Nat.lt_of_lt_of_le hlt (Nat.pow_le_pow_right (by decide) h64))
      have h5 : (nb x : Int) / 2 ^ nb y = ((nb x / 2 ^ nb y : Nat) : Int) := by rw [Int.natCast_ediv, natCast_two]
      have h6 : (nb x : Int) / 2 ^ ((64 : Int)).toNat = ((nb x / 2 ^ 64 : Nat) : Int) := by rw [show ((64 : Int)).toNat = 64 from rfl, Int.natCast_ediv, natCast_two]
      rw [h5, h6, h3, h4]
    · rw [Int.toNat_natCast]
/-- The amount and the sign of a number that is shown. -/
theorem Shows.amt {k A : Int} {x : List Bool} (h : Shows k A x) (hs : sgn k = true) : amt (sgn k) (wid k) (nb x) = A.natAbs ∧ decide (2 ^ (wid k - 1) ≤ nb x) = decide (A < 0) := by
  have h9 : k ≠ 9 := by rintro rfl; revert hs; decide
  have hv := h.sv h9
  have hlt := h.lt
  have hl2 : (nb x : Int) < ((2 ^ wid k : Nat) : Int) := Int.ofNat_lt.2 hlt
  rw [natCast_two] at hl2
  unfold Go.Proofs.YtdjnekcpeaadhaaGreat.sv at hv
  unfold Go.Proofs.YtdjnekcpeaadhaaGreat.amt
  rw [hs] at hv ⊢
  by_cases hc : 2 ^ (wid k - 1) ≤ nb x
  · rw [if_pos ⟨rfl, hc⟩] at hv
    rw [if_pos ⟨rfl, hc⟩]
    have : A < 0 := by omega
    refine ⟨?_, by simp [hc, this]⟩
    have e : ((2 ^ wid k - nb x : Nat) : Int) = 2 ^ wid k - (nb x : Int) := by rw [Int.ofNat_sub (Nat.le_of_lt hlt), natCast_two]
    omega
  · rw [if_neg (fun e => hc e.2)] at hv
    rw [if_neg (fun e => hc e.2)]
    have : ¬ A < 0 := by omega
    exact ⟨by omega, by simp [hc, this]⟩
theorem opp_mod (n : Nat) (c : Bool) (N : Nat) (h : N < 2 ^ n) : ((opp n c N : Nat) : Int) % 2 ^ n = (if c then -(N : Int) else N) % 2 ^ n := by
  unfold opp
  cases c
  · rfl
  · simp only [if_true]
    rw [Int.natCast_emod, natCast_two, Int.emod_emod_of_dvd _ (Int.dvd_refl _), Int.ofNat_sub (Nat.le_of_lt h), natCast_two, show (2 : Int) ^ n - (N : Int) = -(N : Int) + 2 ^ n by omega, add_self_mod]
theorem tdiv_abs (A B : Int) : A.tdiv B = if (decide (A < 0) ^^ decide (B < 0)) then -((A.natAbs / B.natAbs : Nat) : Int) else ((A.natAbs / B.natAbs : Nat) : Int) := by
  have h1 : ((A.natAbs / B.natAbs : Nat) : Int) = (A.natAbs : Int).tdiv (B.natAbs : Int) := (Int.ofNat_tdiv _ _)
  rw [h1]
  by_cases ha : A < 0 <;> by_cases hb : B < 0
  · have e1 : A = -(A.natAbs : Int) := by omega
    have e2 : B = -(B.natAbs : Int) := by omega
    conv => lhs; rw [e1, e2, Int.neg_tdiv, Int.tdiv_neg, Int.neg_neg]
    simp [ha, hb]
  · have e1 : A = -(A.natAbs : Int) := by omega
    have e2 : B = (B.natAbs : Int) := by omega
    conv => lhs; rw [e1, e2, Int.neg_tdiv]
    simp [ha, hb]
  · have e1 : A = (A.natAbs : Int) := by omega
    have e2 : B = -(B.natAbs : Int) := by omega
    conv => lhs; rw [e1, e2, Int.tdiv_neg]
    simp [ha, hb]
  · have e1 : A = (A.natAbs : Int) := by omega
    have e2 : B = (B.natAbs : Int) := by omega
    conv => lhs; rw [e1, e2]
    simp [ha, hb]
theorem tmod_abs2 (A B : Int) : A.tmod B = if decide (A < 0) then -((A.natAbs % B.natAbs : Nat) : Int) else ((A.natAbs % B.natAbs : Nat) : Int) := by
  have h1 : ((A.natAbs % B.natAbs : Nat) : Int) = (A.natAbs : Int).tmod (B.natAbs : Int) := (Int.ofNat_tmod _ _)
  rw [h1]
  have hb : A.tmod B = A.tmod (B.natAbs : Int) := by
    by_cases hb : B < 0
    · have e2 : B = -(B.natAbs : Int) := by omega
      conv => lhs; rw [e2, Int.tmod_neg]
    · have e2 : B = (B.natAbs : Int) := by omega
      conv => lhs; rw [e2]
  rw [hb]
  by_cases ha : A < 0
  · have e1 : A = -(A.natAbs : Int) := by omega
    conv => lhs; rw [e1, Int.neg_tmod]
    simp [ha]
  · have e1 : A = (A.natAbs : Int) := by omega
    conv => lhs; rw [e1]
    simp [ha]
theorem divv_signed {k A B : Int} (hs : sgn k = true) (hB : B ≠ 0) (m : Nat) (hm : m ≤ 64) : divv k A B % 2 ^ m = A.tdiv B % 2 ^ m := by
  have h9 : k ≠ 9 := by rintro rfl; revert hs; decide
  unfold divv
  rw [if_neg hB, if_neg h9]
  split
  · rename_i e
    subst e
    rw [wrap64_modw _ _ hm, Int.tdiv_neg, Int.tdiv_one]
  · exact wrap64_modw _ _ hm
theorem modv_signed {k A B : Int} (hs : sgn k = true) (hB : B ≠ 0) : modv k A B = A.tmod B := by
  have h9 : k ≠ 9 := by rintro rfl; revert hs; decide
  unfold modv
  rw [if_neg hB, if_neg h9]
  split
  · rename_i e
    subst e
    rw [Int.tmod_neg, Int.tmod_one]
  · rfl
theorem Shows.zero {k B : Int} {y : List Bool} (h : Shows k B y) : nb y = 0 ↔ B = 0 := by
  have hz : Shows k 0 (List.replicate (wid k) false) := ⟨by simp, by rw [nb_false]; simp, isk_iff.2 ⟨h.pos, wkr_zero k⟩, by unfold I64; omega⟩
  have := shows_eq h hz
  rw [nb_false] at this
  by_cases hb : B = 0
  · subst hb; simp at this; simp [this]
  · have hne : (B == 0) = false := by simpa using hb
    rw [hne] at this
    simp at this
    simp [hb, this]
theorem div_lt {k A B : Int} {x : List Bool} (hx : Shows k A x) (hs : sgn k = true) : A.natAbs / B.natAbs < 2 ^ wid k := by
  have h1 := (hx.amt hs).1
  have h2 : A.natAbs ≤ 2 ^ wid k - 1 := by
    rw [← h1]
    have hlt := hx.lt
    have hp : 0 < 2 ^ (wid k - 1) := Nat.pow_pos (by decide)
    unfold Go.Proofs.YtdjnekcpeaadhaaGreat.amt
    split <;> omega
  have h3 : A.natAbs / B.natAbs ≤ A.natAbs := Nat.div_le_self _ _
  have hp : 0 < 2 ^ wid k := Nat.pow_pos (by decide)
  omega
theorem mod_lt {k A B : Int} {x : List Bool} (hx : Shows k A x) (hs : sgn k = true) : A.natAbs % B.natAbs < 2 ^ wid k := by
  have h1 := (hx.amt hs).1
  have h2 : A.natAbs ≤ 2 ^ wid k - 1 := by
    rw [← h1]
    have hlt := hx.lt
    have hp : 0 < 2 ^ (wid k - 1) := Nat.pow_pos (by decide)
    unfold Go.Proofs.YtdjnekcpeaadhaaGreat.amt
    split <;> omega
  have h3 : A.natAbs % B.natAbs ≤ A.natAbs := Nat.mod_le _ _
  have hp : 0 < 2 ^ wid k := Nat.pow_pos (by decide)
  omega
/-- A number without a sign is what is shown. -/
theorem Shows.nat {k A : Int} {x : List Bool} (h : Shows k A x) (hs : sgn k = false) (h9 : k ≠ 9) : A = (nb x : Int) := by
  have := h.sv h9
  rw [← this]
  unfold Go.Proofs.YtdjnekcpeaadhaaGreat.sv
  simp [hs]
theorem div_tells {ins : List Bool} {s : BSt} {a b : List Nat} {x y : List Bool} {k A B : Int} (hx : Shows k A x) (hy : Shows k B y) (h : Good ins s) (ha : Ws ins s a x) (hb : Ws ins s b y) (hl : s.gs.length + 60000 ≤ 200000) : Tells ins s (divF (sgn k) s a b) (wid k) (divv k A B) := by
  have h64 := wid_le k
  have hc : wid k * (12 * (wid k + 1) + 1) ≤ 64 * 781 := Nat.mul_le_mul h64 (by omega)
  refine (div_law (sg := sgn k) (by rw [ha.len, hx.len]) (by rw [hb.len, hy.len]) hx.pos h ha hb (by omega)).tells (by omega) ?_
  by_cases hB : B = 0
  · rw [if_pos (hy.zero.2 hB)]
    unfold divv
    rw [if_pos hB]
    rfl
  · have hy0 : ¬ nb y = 0 := fun e => hB (hy.zero.1 e)
    rw [if_neg hy0]
    by_cases hs : sgn k = true
    · obtain ⟨x1, x2⟩ := hx.amt hs
      obtain ⟨y1, y2⟩ := hy.amt hs
      rw [x1, y1, x2, y2, opp_mod _ _ _ (div_lt hx hs), divv_signed hs hB _ h64, tdiv_abs A B, hs, Bool.true_and]
    · have hs2 : sgn k = false := by simpa using hs
      rw [hs2]
      simp only [Bool.false_and, opp, amt, Bool.false_eq_true, false_and, if_false]
      by_cases h9 : k = 9
      · subst h9
        have hvx := hx.val
        have hvy := hy.val
        rw [wid_9, pow_64] at hvx hvy
        have hne : B % 18446744073709551616 ≠ 0 := by rw [← hvy]; omega
        unfold divv
        rw [if_neg hB, if_pos rfl, law_div9 A B hne, wrap64_modw _ _ h64, ← hvx, ← hvy]
        push_cast
        rfl
      · have e1 := hx.nat hs2 h9
        have e2 := hy.nat hs2 h9
        unfold divv
        rw [if_neg hB, if_neg h9, if_neg (by omega), wrap64_modw _ _ h64, e1, e2, ← Int.ofNat_tdiv]
theorem mod_tells {ins : List Bool} {s : BSt} {a b : List Nat} {x y : List Bool} {k A B : Int} (hx : Shows k A x) (hy : Shows k B y) (h : Good ins s) (ha : Ws ins s a x) (hb : Ws ins s b y) (hl : s.gs.length + 60000 ≤ 200000) : Tells ins s (modF (sgn k) s a b) (wid k) (modv k A B) := by
  have h64 := wid_le k
  have hc : wid k * (12 * (wid k + 1) + 1) ≤ 64 * 781 := Nat.mul_le_mul h64 (by omega)
  refine (mod_law (sg := sgn k) (by rw [ha.len, hx.len]) (by rw [hb.len, hy.len]) hx.pos h ha hb (by omega)).tells (by omega) ?_
  by_cases hB : B = 0
  · rw [if_pos (hy.zero.2 hB)]
    unfold modv
    rw [if_pos hB]
    rfl
  · have hy0 : ¬ nb y = 0 := fun e => hB (hy.zero.1 e)
    rw [if_neg hy0]
    by_cases hs : sgn k = true
    · obtain ⟨x1, x2⟩ := hx.amt hs
      obtain ⟨y1, y2⟩ := hy.amt hs
      rw [x1, y1, x2, opp_mod _ _ _ (mod_lt hx hs), modv_signed hs hB, tmod_abs2 A B, hs, Bool.true_and]
    · have hs2 : sgn k = false := by simpa using hs
      rw [hs2]
      simp only [Bool.false_and, opp, amt, Bool.false_eq_true, false_and, if_false]
      by_cases h9 : k = 9
      · subst h9
        have hvx := hx.val
        have hvy := hy.val
        rw [wid_9, pow_64] at hvx hvy
        unfold modv
        rw [if_neg hB, if_pos rfl, law_mod9 A B, wrap64_modw _ _ h64, ← hvx, ← hvy]
        push_cast
        rfl
      · have e1 := hx.nat hs2 h9
        have e2 := hy.nat hs2 h9
        unfold modv
        rw [if_neg hB, if_neg h9, if_neg (by omega), e1, e2, ← Int.ofNat_tmod]
theorem imp_tells {ins : List Bool} {s : BSt} {a b : List Nat} {x y : List Bool} {A B : Int} (hx : Shows 1 A x) (hy : Shows 1 B y) (h : Good ins s) (ha : Ws ins s a x) (hb : Ws ins s b y) (hl : s.gs.length + 60000 ≤ 200000) : Tells ins s (impF s a b) 1 (tru (A == 0 || B != 0)) := by
  have h1 := imp_law (by rw [ha.len, hx.len, wid_1]) (by rw [hb.len, hy.len, wid_1]) h ha hb (by omega)
  have e : (!(x.getD 0 false) || y.getD 0 false) = (A == 0 || B != 0) := by
    have b1 := hx.bit 0 (by rw [wid_1]; omega)
    have b2 := hy.bit 0 (by rw [wid_1]; omega)
    unfold bitI at b1 b2
    generalize x.getD 0 false = p at *
    generalize y.getD 0 false = q at *
    rcases isk_one hx.is with rfl | rfl <;> rcases isk_one hy.is with rfl | rfl <;> cases p <;> cases q <;> first | rfl | exact absurd b1 (by decide) | exact absurd b2 (by decide)
  rw [e] at h1
  exact h1.bool (by omega)
/-- All operations on two values. -/
theorem op_tells {ins : List Bool} {s : BSt} {a b : List Nat} {x y : List Bool} {k A B : Int} {n : Nat} (hx : Shows k A x) (hy : Shows k B y) (h : Good ins s) (ha : Ws ins s a x) (hb : Ws ins s b y) (hl : s.gs.length + 60000 ≤ 200000) (hf : fitsv (opOf n) k = true) :
    Tells ins s (opF n (sgn k) s a b) (wid (binr n k A B).2) (binr n k A B).1 := by
  have hp := hx.pos
  have w1 : wid 1 = 1 := by decide
  rcases Nat.lt_or_ge n 20 with hn | hn
  · rcases (show n = 0 ∨ n = 1 ∨ n = 2 ∨ n = 3 ∨ n = 4 ∨ n = 5 ∨ n = 6 ∨ n = 7 ∨ n = 8 ∨ n = 9 ∨ n = 10 ∨ n = 11 ∨ n = 12 ∨ n = 13 ∨ n = 14 ∨ n = 15 ∨ n = 16 ∨ n = 17 ∨ n = 18 ∨ n = 19 by omega) with rfl | rfl | rfl | rfl | rfl | rfl | rfl | rfl | rfl | rfl | rfl | rfl | rfl | rfl | rfl | rfl | rfl | rfl | rfl | rfl
    · exact absurd hf (by rw [show opOf 0 = 0 from rfl, fits0]; simp)
    · exact absurd hf (by rw [show opOf 1 = 0 from rfl, fits0]; simp)
    · exact absurd hf (by rw [show opOf 2 = 0 from rfl, fits0]; simp)
    · exact wkr_tells hp (wrap_tells (add_tells hx hy h ha hb hl))
    · exact wkr_tells hp (wrap_tells (sub_tells hx hy h ha hb hl))
    · exact wkr_tells hp (wrap_tells (mul_tells hx hy h ha hb hl))
    · exact wkr_tells hp (div_tells hx hy h ha hb hl)
    · exact wkr_tells hp (mod_tells hx hy h ha hb hl)
    · exact wkr_tells hp (band_tells hx hy h ha hb hl)
    · exact wkr_tells hp (bor_tells hx hy h ha hb hl)
    · exact wkr_tells hp (bxor_tells hx hy h ha hb hl)
    · have hk : k = 1 := by
        refine Decidable.byContradiction fun hk => ?_
        rw [show opOf 11 = 1 from rfl, fits_k (by simpa using hk), f12] at hf
        cases hf
      subst hk
      rw [show wid (binr 11 1 A B).2 = 1 from w1]
      exact imp_tells hx hy h ha hb hl
    · exact wkr_tells hp (shl_tells hx hy h ha hb hl)
    · exact wkr_tells hp (shr_tells hx hy h ha hb hl)
    · rw [show wid (binr 14 k A B).2 = 1 from w1]; exact (eq_tells hx hy h ha hb hl).bool (by omega)
    · rw [show wid (binr 15 k A B).2 = 1 from w1]; exact (ne_tells hx hy h ha hb hl).bool (by omega)
    · rw [show wid (binr 16 k A B).2 = 1 from w1]; exact (lt_tells hx hy h ha hb hl).bool (by omega)
    · rw [show wid (binr 17 k A B).2 = 1 from w1]; exact (notL_law (lt_tells hy hx h hb ha hl)).bool (by omega)
    · rw [show wid (binr 18 k A B).2 = 1 from w1]; exact (lt_tells hy hx h hb ha hl).bool (by omega)
    · rw [show wid (binr 19 k A B).2 = 1 from w1]; exact (ge_tells hx hy h ha hb hl).bool (by omega)
  · exact absurd hf (by rw [opOf_big n hn, fits0]; simp)
end Go.Proofs.YtdjnekcpeaadhaaGreat
namespace Go.Proofs.YtdjnekcpeaadhaaGreat
open Go.RowKit
set_option linter.unusedSimpArgs false
set_option linter.unusedVariables false
set_option maxRecDepth 100000

theorem un_tells {ins : List Bool} {s : BSt} {a : List Nat} {x : List Bool} {k A : Int} {n : Nat} (hx : Shows k A x) (h : Good ins s) (ha : Ws ins s a x) (hl : s.gs.length + 60000 ≤ 200000) (hn : n = 1 ∨ n = 2 ∧ k ≠ 1) :
    Tells ins s (opF n (sgn k) s a []) (wid k) (unv (n : Int) k A).1 := by
  have hp := hx.pos
  rcases hn with rfl | ⟨rfl, hk⟩
  · have h1 := wkr_tells hp (inv_tells hx h ha)
    have e : (unv ((1 : Nat) : Int) k A).1 = wkr k (bits .xor .i64 (-1) A) := by
      unfold unv
      rw [if_neg (by rw [hx.is]; simp), if_pos (show ((1 : Nat) : Int) = 1 from rfl)]
      split
      · rename_i hk; subst hk; exact (law_not1 hx.is).symm
      · rfl
    rw [e]
    exact h1
  · have h1 := wkr_tells hp (wrap_tells (neg_tells hx h ha hl))
    have e : (unv ((2 : Nat) : Int) k A).1 = wkr k (wrap64 (-A)) := by
      unfold unv
      rw [if_neg (by rw [hx.is]; simp), if_neg (show ¬ ((2 : Nat) : Int) = 1 by decide), if_pos (show ((2 : Nat) : Int) = 2 from rfl), if_neg hk]
    rw [e]
    exact h1
theorem cast_tells {ins : List Bool} {s : BSt} {a : List Nat} {x : List Bool} {f t A : Int} (hx : Shows f A x) (h : Good ins s) (ha : Ws ins s a x) (hl : s.gs.length + 60000 ≤ 200000) (ht : 0 < wid t) :
    Tells ins s (castF f t s a) (wid t) (castv f t A).1 := by
  have h64 := wid_le f
  have ht64 := wid_le t
  have hla : a.length = wid f := by rw [ha.len, hx.len]
  have e0 : ¬ (isk f A = false ∨ width t = 0) := by
    have := width_wid t
    rintro (e | e)
    · rw [hx.is] at e; cases e
    · omega
  by_cases h1 : t = 1
  · subst h1
    have g := any_law h ha (by omega)
    have e : (castv f 1 A).1 = tru (A != 0) := by unfold castv; rw [if_neg e0, if_pos rfl]
    have e2 : decide (nb x ≠ 0) = (A != 0) := by
      have := hx.zero
      by_cases hz : A = 0
      · simp [hz, this.2 hz]
      · have h0 : ¬ nb x = 0 := fun e => hz (this.1 e)
        have hne : (A != 0) = true := by simpa using hz
        rw [hne]; simp [h0]
    have e3 : castF f 1 s a = ((anyF s a).1, [(anyF s a).2]) := by unfold castF; rw [if_pos rfl]
    rw [e, ← e2, e3]
    exact Rl.bool (c := a.length + 1) ⟨g.good, g.gr, Ws.cons g.wi (Ws.nil _ _)⟩ (by omega)
  · have e : (castv f t A).1 = wkr t A := by unfold castv; rw [if_neg e0, if_neg h1]
    have z := zero_law h (by omega)
    rw [e]
    refine wkr_tells ht ?_
    unfold castF
    rw [if_neg h1, hla]
    by_cases hw : wid t ≤ wid f
    · rw [if_pos hw]
      have r : Rl ins s 1 ((zeroF s).1, a.take (wid t)) (x.take (wid t)) := ⟨z.good, z.gr, (ha.take _).gr z.gr⟩
      have r2 := r.num
      rw [List.length_take, hx.len, Nat.min_eq_left hw] at r2
      refine r2.tells (by omega) ?_
      have hd : (2 : Int) ^ wid t ∣ 2 ^ wid f := ⟨2 ^ (wid f - wid t), by rw [← Int.pow_add, Nat.add_sub_cancel' hw]⟩
      rw [nb_take, Int.natCast_emod, natCast_two, Int.emod_emod_of_dvd _ (Int.dvd_refl _), hx.val, Int.emod_emod_of_dvd _ hd]
    · rw [if_neg hw]
      obtain ⟨d, hd⟩ : ∃ d, d = wid t - wid f := ⟨_, rfl⟩
      have hdt : wid f + d = wid t := by omega
      have h9 : f ≠ 9 := by rintro rfl; rw [wid_9] at hw; omega
      rw [← hd]
      have hi : Wi ins (zeroF s).1 (if sgn f then topF a else (zeroF s).2) (sgn f && decide (2 ^ (wid f - 1) ≤ nb x)) := by
        cases hs : sgn f
        · exact z.wi
        · have := (topF_wi ha (by have := hx.pos; omega)).gr z.gr
          rw [hla] at this
          exact this
      have r : Rl ins s 1 ((zeroF s).1, a ++ List.replicate d (if sgn f then topF a else (zeroF s).2)) (x ++ List.replicate d (sgn f && decide (2 ^ (wid f - 1) ≤ nb x))) := ⟨z.good, z.gr, (ha.gr z.gr).append (Ws.rep hi d)⟩
      have r2 := r.num
      rw [List.length_append, List.length_replicate, hx.len, hdt] at r2
      refine r2.tells (by omega) ?_
      have hsv := hx.sv h9
      rw [nb_append, hx.len]
      unfold sv at hsv
      by_cases hc : sgn f = true ∧ 2 ^ (wid f - 1) ≤ nb x
      · rw [if_pos hc] at hsv
        have ei : (sgn f && decide (2 ^ (wid f - 1) ≤ nb x)) = true := by simp [hc.1, hc.2]
        rw [ei]
        have hT := nb_true d
        have e5 : nb (List.replicate d true) = 2 ^ d - 1 := by omega
        have e6 : nb x + 2 ^ wid f * (2 ^ d - 1) + 2 ^ wid f = nb x + 2 ^ wid t := by
          rw [← hdt, Nat.pow_add, Nat.add_assoc, ← Nat.mul_succ, Nat.succ_eq_add_one, Nat.sub_add_cancel (Nat.pow_pos (by decide))]
        have e7 : ((nb x + 2 ^ wid f * (2 ^ d - 1) + 2 ^ wid f : Nat) : Int) = ((nb x + 2 ^ wid t : Nat) : Int) := by rw [e6]
        rw [Int.natCast_add, Int.natCast_add (nb x) (2 ^ wid t), natCast_two, natCast_two] at e7
        rw [e5, ← hsv, show ((nb x + 2 ^ wid f * (2 ^ d - 1) : Nat) : Int) = ((nb x : Int) - 2 ^ wid f) + 2 ^ wid t by omega, add_self_mod]
      · rw [if_neg hc] at hsv
        have ei : (sgn f && decide (2 ^ (wid f - 1) ≤ nb x)) = false := by
          cases hs : sgn f
          · rfl
          · have : ¬ 2 ^ (wid f - 1) ≤ nb x := fun e => hc ⟨hs, e⟩
            simp [this]
        rw [ei, nb_false, Nat.mul_zero, Nat.add_zero, ← hsv]
/-! ### Inputs -/
def inG : Gt := ⟨2, 0, 0⟩
/-- A maker that has inputs alone. -/
def inS (m : Nat) : BSt := ⟨List.replicate m inG, false, none, []⟩
theorem inputsF_in : ∀ (n m : Nat), m + n ≤ 200000 → inputsF n (inS m) = (inS (m + n), (List.range n).map fun i => 2 * (m + i))
  | 0, m, _ => rfl
  | n + 1, m, h => by
    have e : inputF (inS m) = (inS (m + 1), 2 * m) := by
      unfold inputF gateF
      rw [if_neg (by simp [inS]; omega)]
      unfold inS
      simp only [List.length_replicate, List.replicate_succ', inG]
    have h2 := inputsF_in n (m + 1) (by omega)
    unfold inputsF
    rw [e, h2, List.range_succ_eq_map, show m + 1 + n = m + (n + 1) by omega]
    simp only [List.map_cons, List.map_map, Nat.add_zero]
    congr 2
    apply List.map_congr_left
    intro i _
    simp only [Function.comp]
    omega
theorem newS_in : newS = inS 0 := rfl
theorem evA_in : ∀ (m : Nat) (v ins : List Bool), m ≤ ins.length → evA v ins (List.replicate m inG) = v ++ ins.take m
  | 0, v, ins, _ => by simp [evA]
  | m + 1, v, [], h => by simp at h
  | m + 1, v, b :: ins, h => by
    rw [List.replicate_succ, evA]
    have e1 : gv1 v (b :: ins) inG = b := rfl
    have e2 : restA (b :: ins) inG = ins := rfl
    rw [e1, e2, evA_in m _ ins (by simpa using h)]
    simp
theorem inS_good (m : Nat) (ins : List Bool) (hm : m ≤ 200000) : Good ins (inS m) :=
  ⟨rfl, fun z h => (by cases h), fun e h => (by cases h), fun i g h => by
    have : g = inG := List.eq_of_mem_replicate (List.mem_of_getElem? h)
    subst this
    exact .inl ⟨.inr rfl, rfl, rfl⟩, by simp [inS]; exact hm⟩
theorem inS_ws (m p n : Nat) (ins : List Bool) (hm : m ≤ ins.length) (hp : p + n ≤ m) : Ws ins (inS m) ((List.range n).map fun i => 2 * (p + i)) ((ins.drop p).take n) := by
  refine ⟨fun w hw => ?_, ?_⟩
  · obtain ⟨i, hi, rfl⟩ := List.mem_map.1 hw
    have := List.mem_range.1 hi
    simp [inS]; omega
  · have hV : V ins (inS m) = ins.take m := by
      show evA [] ins (List.replicate m inG) = _
      rw [evA_in m [] ins hm]; rfl
    rw [hV]
    refine List.ext_getElem? fun i => ?_
    rw [List.getElem?_map, List.getElem?_map, List.getElem?_take]
    by_cases hi : i < n
    · rw [if_pos hi, List.getElem?_range hi, List.getElem?_drop]
      have hl : p + i < ins.length := by omega
      rw [List.getElem?_eq_getElem hl]
      simp only [Option.map_some, wv, show 2 * (p + i) / 2 = p + i by omega, show 2 * (p + i) % 2 = 0 by omega]
      rw [List.getD_eq_getElem?_getD, List.getElem?_take, if_pos (by omega), List.getElem?_eq_getElem hl]
      simp
    · rw [if_neg hi, List.getElem?_eq_none (by simp; omega)]
      rfl
/-- The bits of a value. -/
def bitsB (k A : Int) : List Bool := (bitsL (wid k) A).map (· == 1)
theorem bitsB_len (k A : Int) : (bitsB k A).length = wid k := by unfold bitsB; rw [List.length_map, bitsL_length]
theorem bitsB_shows {k A : Int} (hi : isk k A = true) (h : I64 A) : Shows k A (bitsB k A) := by
  refine ⟨bitsB_len k A, ?_, hi, h⟩
  have hlt := nb_lt (bitsB k A)
  rw [bitsB_len] at hlt
  refine modN hlt (bits_ext fun i hi => ?_)
  rw [bitI_nb]
  have hl : i < (bitsL (wid k) A).length := by rw [bitsL_length]; exact hi
  have e := bitsL_getD (wid k) A i hi
  rw [List.getD_eq_getElem?_getD, List.getElem?_eq_getElem hl] at e
  unfold bitsB
  rw [List.getD_eq_getElem?_getD, List.getElem?_map, List.getElem?_eq_getElem hl]
  simp only [Option.map_some, Option.getD_some] at e ⊢
  rw [e]
  rcases bit_cases A i with h0 | h0 <;> rw [h0] <;> rfl
/-! ### A net -/
/-- What a net is and tells. -/
structure NetTells (ins : List Bool) (R : BL) (m w : Nat) (V : Int) : Prop where
  ok : netOk 0 (R.1.gs.map gvOf) = true
  wf : GatesWf (R.1.gs.map gvOf)
  len : R.1.gs.length ≤ 200000
  inp : ∃ hs, R.1.gs = List.replicate m inG ++ hs ∧ ∀ g ∈ hs, g.op ≠ 2
  lt : ∀ u ∈ R.2, u < 2 * R.1.gs.length
  vals : ∃ zs, R.2.map (fun u : Nat => wireV (evalN (R.1.gs.map gvOf) [] ins) (u : Int)) = zs ∧ zs.length = w ∧ (nb zs : Int) = V % 2 ^ w
theorem wireV_wv (v : List Bool) (u : Nat) : wireV v (u : Int) = wv v u := by unfold wireV wv; rw [Int.toNat_natCast]
theorem evalN_evA : ∀ (l : List Gt) (v ins : List Bool), evalN (l.map gvOf) v ins = evA v ins l
  | [], _, _ => rfl
  | g :: l, v, ins => by
    rw [List.map_cons, evalN, evA]
    by_cases h2 : g.op = 2
    · have e : (gvOf g).op = 2 := by unfold gvOf; dsimp only; omega
      rw [if_pos e, evalN_evA l]
      unfold gv1 restA
      rw [if_pos h2, if_pos h2]
      cases ins <;> rfl
    · have e : ¬ (gvOf g).op = 2 := by unfold gvOf; dsimp only; omega
      rw [if_neg e]
      unfold gv1 restA
      rw [if_neg h2, if_neg h2]
      by_cases h3 : g.op = 3
      · have e3 : (gvOf g).op = 3 := by unfold gvOf; dsimp only; omega
        rw [if_pos e3, if_pos h3, evalN_evA l]
        have ea : (gvOf g).a = (g.a : Int) := rfl
        have eb : (gvOf g).b = (g.b : Int) := rfl
        rw [ea, eb, wireV_wv, wireV_wv]
      · have e3 : ¬ (gvOf g).op = 3 := by unfold gvOf; dsimp only; omega
        rw [if_neg e3, if_neg h3, evalN_evA l]
theorem fair_ok : ∀ (l : List Gt) (i : Nat), (∀ j g, l[j]? = some g → Fair (i + j) g) → netOk i (l.map gvOf) = true
  | [], _, _ => rfl
  | g :: l, i, h => by
    rw [List.map_cons, netOk, Bool.and_eq_true]
    refine ⟨?_, fair_ok l (i + 1) fun j g' hg => by have := h (j + 1) g' (by simpa using hg); rwa [show i + (j + 1) = i + 1 + j by omega] at this⟩
    have := h 0 g rfl
    unfold gateOk gvOf
    dsimp only
    rcases this with ⟨h1, h2, h3⟩ | ⟨h1, h2, h3⟩
    · rw [if_pos (by omega), h2, h3]; rfl
    · rw [if_neg (by omega), if_pos (by omega)]
      simp only [Nat.add_zero] at h2 h3
      simp only [decide_eq_true_eq]
      omega
theorem netTells_of {ins : List Bool} {R : BL} {m w : Nat} {V : Int} (h : Tells ins (inS m) R w V) (hm : m ≤ 128) (hw : ∀ g ∈ R.1.gs, g.op ≤ 3 ∧ WB g.a ∧ WB g.b) : NetTells ins R m w V := by
  obtain ⟨N, h1, h2⟩ := h
  obtain ⟨zs, w1, w2, w3⟩ := h1.vals
  obtain ⟨hs, e1, e2, e3⟩ := h1.gr
  refine ⟨fair_ok _ 0 fun j g hg => by rw [Nat.zero_add]; exact h1.good.fair j g hg, gvOf_wf hw, h1.good.len, ⟨hs, e1, e3⟩, w1.1, zs, ?_, w2, by rw [w3]; exact h2⟩
  rw [← w1.2]
  refine List.map_congr_left fun u _ => ?_
  rw [wireV_wv, evalN_evA]
  rfl
end Go.Proofs.YtdjnekcpeaadhaaGreat
namespace Go.Proofs.YtdjnekcpeaadhaaGreat
open Go.RowKit
set_option linter.unusedSimpArgs false
set_option linter.unusedVariables false
set_option maxRecDepth 100000

theorem inputs_two (w : Nat) (h : w ≤ 64) : inputsF w newS = (inS w, (List.range w).map fun i => 2 * (0 + i)) ∧ inputsF w (inS w) = (inS (w + w), (List.range w).map fun i => 2 * (w + i)) := by
  refine ⟨?_, inputsF_in w w (by omega)⟩
  have := inputsF_in w 0 (by omega)
  rw [Nat.zero_add] at this
  rw [newS_in]
  exact this
theorem bin_net {n : Nat} {k A B : Int} (hA : isk k A = true) (hB : isk k B = true) (iA : I64 A) (iB : I64 B) (hf : fitsv (opOf n) k = true) (hn : 3 ≤ n ∧ n ≤ 19) :
    NetTells (bitsB k A ++ bitsB k B) (opNet n k true) (wid k + wid k) (wid (binr n k A B).2) (binr n k A B).1 := by
  have h64 := wid_le k
  obtain ⟨e1, e2⟩ := inputs_two (wid k) h64
  have hx := bitsB_shows hA iA
  have hy := bitsB_shows hB iB
  have e3 : opNet n k true = opF n (sgn k) (inS (wid k + wid k)) ((List.range (wid k)).map fun i => 2 * (0 + i)) ((List.range (wid k)).map fun i => 2 * (wid k + i)) := by
    unfold opNet
    rw [if_pos rfl, e1, e2]
  have hl : (bitsB k A ++ bitsB k B).length = wid k + wid k := by rw [List.length_append, bitsB_len, bitsB_len]
  have ha := inS_ws (wid k + wid k) 0 (wid k) (bitsB k A ++ bitsB k B) (by omega) (by omega)
  have hb := inS_ws (wid k + wid k) (wid k) (wid k) (bitsB k A ++ bitsB k B) (by omega) (by omega)
  have ea : (List.drop 0 (bitsB k A ++ bitsB k B)).take (wid k) = bitsB k A := by rw [List.drop_zero, List.take_append_of_le_length (by rw [bitsB_len]; exact Nat.le_refl _), List.take_of_length_le (by rw [bitsB_len]; exact Nat.le_refl _)]
  have eb : (List.drop (wid k) (bitsB k A ++ bitsB k B)).take (wid k) = bitsB k B := by
    have h9 : List.drop (wid k) (bitsB k A ++ bitsB k B) = bitsB k B := by
      conv => lhs; rw [← bitsB_len k A]
      exact List.drop_left
    rw [h9, List.take_of_length_le (by rw [bitsB_len]; exact Nat.le_refl _)]
  rw [ea] at ha
  rw [eb] at hb
  have t := op_tells hx hy (inS_good (wid k + wid k) _ (by omega)) ha hb (by simp [inS]; omega) hf
  have hw := opNet_wf (n := n) (k := k) (two := true) (by omega)
  rw [e3] at hw ⊢
  exact netTells_of t (by omega) (fun g hg => ⟨(hw.ab g hg).1, (hw.ab g hg).2.2⟩)
theorem un_net {n : Nat} {k A : Int} (hA : isk k A = true) (iA : I64 A) (hn : n = 1 ∨ n = 2 ∧ k ≠ 1) : NetTells (bitsB k A) (opNet n k false) (wid k) (wid k) (unv (n : Int) k A).1 := by
  have h64 := wid_le k
  obtain ⟨e1, -⟩ := inputs_two (wid k) h64
  have hx := bitsB_shows hA iA
  have e3 : opNet n k false = opF n (sgn k) (inS (wid k)) ((List.range (wid k)).map fun i => 2 * (0 + i)) [] := by
    unfold opNet
    rw [if_neg (by simp), e1]
  have ha := inS_ws (wid k) 0 (wid k) (bitsB k A) (by rw [bitsB_len]; exact Nat.le_refl _) (by omega)
  rw [List.drop_zero, List.take_of_length_le (by rw [bitsB_len]; exact Nat.le_refl _)] at ha
  have t := un_tells hx (inS_good (wid k) _ (by omega)) ha (by simp [inS]; omega) hn
  have hw := opNet_wf (n := n) (k := k) (two := false) (by omega)
  rw [e3] at hw ⊢
  exact netTells_of t (by omega) (fun g hg => ⟨(hw.ab g hg).1, (hw.ab g hg).2.2⟩)
theorem castNet_wf (f t : Int) : BWf (castNet f t).1 := by
  have h1 := inputsF_wf (wid f) newS_wf
  unfold castNet castF
  split
  · exact (anyF_wf h1.1 h1.2.1).1
  · exact (zeroF_wf h1.1).1
theorem cast_net {f t A : Int} (hA : isk f A = true) (iA : I64 A) (ht : 0 < wid t) : NetTells (bitsB f A) (castNet f t) (wid f) (wid t) (castv f t A).1 := by
  have h64 := wid_le f
  obtain ⟨e1, -⟩ := inputs_two (wid f) h64
  have hx := bitsB_shows hA iA
  have e3 : castNet f t = castF f t (inS (wid f)) ((List.range (wid f)).map fun i => 2 * (0 + i)) := by
    unfold castNet
    rw [e1]
  have ha := inS_ws (wid f) 0 (wid f) (bitsB f A) (by rw [bitsB_len]; exact Nat.le_refl _) (by omega)
  rw [List.drop_zero, List.take_of_length_le (by rw [bitsB_len]; exact Nat.le_refl _)] at ha
  have hl2 : (castNet f t).2.length ≤ 64 := (castF_len _ _ ht).2
  have t2 := cast_tells hx (inS_good (wid f) _ (by omega)) ha (by simp [inS]; omega) ht
  have hw := castNet_wf f t
  rw [e3] at hw ⊢
  exact netTells_of t2 (by omega) (fun g hg => ⟨(hw.ab g hg).1, (hw.ab g hg).2.2⟩)
/-- The number that the reference puts together. -/
def b2i (b : Bool) : Int := if b then 1 else 0
theorem from_bits {k V : Int} {zs : List Bool} (hl : zs.length = wid k) (hv : (nb zs : Int) = V % 2 ^ wid k) (hi : isk k V = true) (h : I64 V) : wkr k (fromS (zs.map b2i) (wid k)) = V := by
  have hs : Shows k V zs := ⟨hl, hv, hi, h⟩
  rw [wkr_fromS (N := V) (zs.map b2i) h (fun i hi2 => ?_), (isk_iff.1 hi).2]
  rw [hs.bit i hi2]
  have hl2 : i < zs.length := by omega
  simp only [List.getD_eq_getElem?_getD, List.getElem?_map, List.getElem?_eq_getElem hl2, Option.map_some, Option.getD_some]
  rfl
end Go.Proofs.YtdjnekcpeaadhaaGreat

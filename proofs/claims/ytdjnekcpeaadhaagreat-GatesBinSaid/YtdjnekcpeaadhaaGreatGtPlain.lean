/-
  Nets of gates as they are made: plain functions, no program in sight.
  No condition.
-/
namespace Go.Proofs.YtdjnekcpeaadhaaGreat

structure Gt where
  op : Nat
  a : Nat
  b : Nat
  deriving DecidableEq
structure BSt where
  gs : List Gt
  full : Bool
  zero : Option Nat
  seen : List ((Nat × Nat) × Nat)
abbrev BR := BSt × Nat
abbrev BL := BSt × List Nat
def gateF (s : BSt) (g : Gt) : BR := if 200000 ≤ s.gs.length then ({ s with full := true }, 0) else ({ s with gs := s.gs ++ [g] }, 2 * s.gs.length)
def zeroF (s : BSt) : BR :=
  match s.zero with
  | some z => (s, z)
  | none => ({ (gateF s ⟨1, 0, 0⟩).1 with zero := some (gateF s ⟨1, 0, 0⟩).2 }, (gateF s ⟨1, 0, 0⟩).2)
def flip (w : Nat) : Nat := if w % 2 = 0 then w + 1 else w - 1
def constF (s : BSt) (one : Bool) : BR := ((zeroF s).1, if one then flip (zeroF s).2 else (zeroF s).2)
def inputF (s : BSt) : BR := gateF s ⟨2, 0, 0⟩
def inputsF : Nat → BSt → BL
  | 0, s => (s, [])
  | n + 1, s => ((inputsF n (inputF s).1).1, (inputF s).2 :: (inputsF n (inputF s).1).2)
def look (l : List ((Nat × Nat) × Nat)) (a b : Nat) : Option Nat := (l.find? fun e => e.1 == (a, b)).map (·.2)
def andS (s : BSt) (a b : Nat) : BR :=
  match look s.seen a b with
  | some w => (s, w)
  | none => ({ (gateF s ⟨3, a, b⟩).1 with seen := ((a, b), (gateF s ⟨3, a, b⟩).2) :: s.seen }, (gateF s ⟨3, a, b⟩).2)
def andO (s : BSt) (a b : Nat) : BR :=
  if a = b then (s, a) else if a = flip b then zeroF s else
  match s.zero with
  | none => andS s a b
  | some z => if a = z ∨ b = z then (s, z) else if a = flip z then (s, b) else if b = flip z then (s, a) else andS s a b
def andF (s : BSt) (a b : Nat) : BR := if b < a then andO s b a else andO s a b
def orF (s : BSt) (a b : Nat) : BR := ((andF s (flip a) (flip b)).1, flip (andF s (flip a) (flip b)).2)
def xorF (s : BSt) (a b : Nat) : BR :=
  let p := andF s a (flip b)
  let q := andF p.1 (flip a) b
  orF q.1 p.2 q.2
def muxF (c : Nat) (s : BSt) (a b : Nat) : BR :=
  if a = b then (s, a) else
  let p := andF s c a
  let q := andF p.1 (flip c) b
  orF q.1 p.2 q.2
def eachF (f : BSt → Nat → Nat → BR) : BSt → List Nat → List Nat → BL
  | s, [], _ => (s, [])
  | s, a :: as, bs => ((eachF f (f s a (bs.getD 0 0)).1 as bs.tail).1, (f s a (bs.getD 0 0)).2 :: (eachF f (f s a (bs.getD 0 0)).1 as bs.tail).2)
def chooseF (s : BSt) (c : Nat) (a b : List Nat) : BL := eachF (muxF c) s a b
/-- One place of a sum: the wire, the carry. -/
def addS (s : BSt) (a b c : Nat) : BSt × Nat × Nat :=
  let x := xorF s a b
  let y := xorF x.1 x.2 c
  let p := andF y.1 a b
  let q := andF p.1 x.2 c
  let o := orF q.1 p.2 q.2
  (o.1, y.2, o.2)
def sumF : BSt → List Nat → List Nat → Nat → BSt × List Nat × Nat
  | s, [], _, c => (s, [], c)
  | s, a :: as, bs, c =>
    let r := addS s a (bs.getD 0 0) c
    let t := sumF r.1 as bs.tail r.2.2
    (t.1, r.2.1 :: t.2.1, t.2.2)
def lessF (s : BSt) (a b : List Nat) : BSt × List Nat × Nat := sumF (constF s true).1 a (b.map flip) (constF s true).2
def negF (s : BSt) (a : List Nat) : BL :=
  let z := zeroF s
  let c := constF z.1 true
  let r := sumF c.1 (a.map flip) (List.replicate a.length z.2) c.2
  (r.1, r.2.1)
def anyG : BSt → Nat → List Nat → BR
  | s, o, [] => (s, o)
  | s, o, w :: l => anyG (orF s o w).1 (orF s o w).2 l
def anyF (s : BSt) (l : List Nat) : BR := anyG (zeroF s).1 (zeroF s).2 l
def topF (l : List Nat) : Nat := l.getD (l.length - 1) 0
def addF (s : BSt) (a b : List Nat) : BL := ((sumF (zeroF s).1 a b (zeroF s).2).1, (sumF (zeroF s).1 a b (zeroF s).2).2.1)
def subF (s : BSt) (a b : List Nat) : BL := ((lessF s a b).1, (lessF s a b).2.1)
/-- One row of a product. -/
def mulS (s : BSt) (a b out : List Nat) (i : Nat) : BL :=
  let z := zeroF s
  let r := eachF andF z.1 (List.replicate i z.2 ++ a.take (a.length - i)) (List.replicate a.length (b.getD i 0))
  let y := zeroF r.1
  let t := sumF y.1 out r.2 y.2
  (t.1, t.2.1)
def mulG : Nat → BSt → List Nat → List Nat → List Nat → Nat → BL
  | 0, s, _, _, out, _ => (s, out)
  | n + 1, s, a, b, out, i => mulG n (mulS s a b out i).1 a b (mulS s a b out i).2 (i + 1)
def mulF (s : BSt) (a b : List Nat) : BL := mulG a.length (zeroF s).1 a b (List.replicate a.length (zeroF s).2) 0
/-- One place of a quotient: fits, and the rest. -/
def divS (s : BSt) (x : Nat) (rest wide : List Nat) (w : Nat) : BSt × Nat × List Nat :=
  let r := x :: rest.take w
  let d := lessF s r wide
  let c := chooseF d.1 d.2.2 d.2.1 r
  (c.1, d.2.2, c.2)
/-- The places n - 1 to 0. -/
def divG : Nat → BSt → List Nat → List Nat → List Nat → List Nat → BSt × List Nat × List Nat
  | 0, s, _, _, quot, rest => (s, quot, rest)
  | n + 1, s, a, wide, quot, rest =>
    let r := divS s (a.getD n 0) rest wide a.length
    divG n r.1 a wide (quot.set n r.2.1) r.2.2
def partsF (s : BSt) (a b : List Nat) : BSt × List Nat × List Nat :=
  let z := zeroF s
  let y := zeroF z.1
  let x := zeroF y.1
  let r := divG a.length x.1 a (b.take a.length ++ [x.2]) (List.replicate a.length z.2) (List.replicate (a.length + 1) y.2)
  (r.1, r.2.1, r.2.2.take a.length)
def sizeF (sg : Bool) (s : BSt) (a : List Nat) : BL := if sg then chooseF (negF s a).1 (topF a) (negF s a).2 a else (s, a)
def maskF (s : BSt) (l b : List Nat) : BL := eachF andF (anyF s b).1 l (List.replicate l.length (anyF s b).2)
def divF (sg : Bool) (s : BSt) (a b : List Nat) : BL :=
  let x := sizeF sg s a
  let y := sizeF sg x.1 b
  let p := partsF y.1 x.2 y.2
  let e := xorF p.1 (topF a) (topF b)
  let n := negF e.1 p.2.1
  let c := chooseF n.1 e.2 n.2 p.2.1
  if sg then maskF c.1 c.2 b else maskF p.1 p.2.1 b
def modF (sg : Bool) (s : BSt) (a b : List Nat) : BL :=
  let x := sizeF sg s a
  let y := sizeF sg x.1 b
  let p := partsF y.1 x.2 y.2
  let n := negF p.1 p.2.2
  let c := chooseF n.1 (topF a) n.2 p.2.2
  if sg then maskF c.1 c.2 b else maskF p.1 p.2.2 b
def bandF (s : BSt) (a b : List Nat) : BL := eachF andF s a b
def borF (s : BSt) (a b : List Nat) : BL := eachF orF s a b
def bxorF (s : BSt) (a b : List Nat) : BL := eachF xorF s a b
def impF (s : BSt) (a b : List Nat) : BL := ((orF s (flip (a.getD 0 0)) (b.getD 0 0)).1, [(orF s (flip (a.getD 0 0)) (b.getD 0 0)).2])
/-- One step of a move: by 2 to the k where b's wire k is 1. -/
def movS (s : BSt) (a b : List Nat) (inn k : Nat) : BL := chooseF s (b.getD k 0) (List.replicate (2 ^ k) inn ++ a.take (a.length - 2 ^ k)) a
/-- The steps k, k + 1, .. (at most n). -/
def movG : Nat → BSt → List Nat → List Nat → Nat → Nat → BSt × List Nat × Nat
  | 0, s, a, _, _, k => (s, a, k)
  | n + 1, s, a, b, inn, k => if 2 ^ k < a.length then movG n (movS s a b inn k).1 (movS s a b inn k).2 b inn (k + 1) else (s, a, k)
def movF (s : BSt) (a b : List Nat) (inn : Nat) : BL :=
  let r := movG 64 s a b inn 0
  let y := anyF r.1 (b.drop r.2.2)
  chooseF y.1 y.2 (List.replicate a.length inn) r.2.1
def shlF (s : BSt) (a b : List Nat) : BL := movF (zeroF s).1 a b (zeroF s).2
def shrF (sg : Bool) (s : BSt) (a b : List Nat) : BL :=
  let z := zeroF s
  let r := movF z.1 a.reverse b (if sg then topF a else z.2)
  (r.1, r.2.reverse)
def neF (s : BSt) (a b : List Nat) : BL := ((anyF (bxorF s a b).1 (bxorF s a b).2).1, [(anyF (bxorF s a b).1 (bxorF s a b).2).2])
def notL (r : BL) : BL := (r.1, r.2.map flip)
def eqF (s : BSt) (a b : List Nat) : BL := notL (neF s a b)
def geF (sg : Bool) (s : BSt) (a b : List Nat) : BL :=
  let n := a.length - 1
  let r := if sg then lessF s (a.take n ++ [b.getD n 0]) (b.take n ++ [a.getD n 0]) else lessF s a b
  (r.1, [r.2.2])
def ltF (sg : Bool) (s : BSt) (a b : List Nat) : BL := notL (geF sg s a b)
def gtF (sg : Bool) (s : BSt) (a b : List Nat) : BL := ltF sg s b a
def leF (sg : Bool) (s : BSt) (a b : List Nat) : BL := notL (gtF sg s a b)
def invF (s : BSt) (a : List Nat) : BL := (s, a.map flip)

/-! ### No wire leaves its bounds -/
def WB (w : Nat) : Prop := w < 400000
def WsB (l : List Nat) : Prop := ∀ w ∈ l, WB w
structure BWf (s : BSt) : Prop where
  len : s.gs.length ≤ 200000
  zero : ∀ z, s.zero = some z → WB z
  seen : ∀ e ∈ s.seen, WB e.2
  keys : ∀ e ∈ s.seen, WB e.1.1 ∧ WB e.1.2
  nod : (s.seen.map (·.1)).Nodup
  ab : ∀ g ∈ s.gs, g.op ≤ 3 ∧ 1 ≤ g.op ∧ WB g.a ∧ WB g.b
theorem WB.flip {w : Nat} (h : WB w) : WB (flip w) := by unfold WB Go.Proofs.YtdjnekcpeaadhaaGreat.flip at *; split <;> omega
theorem flip_flip (w : Nat) : flip (flip w) = w := by unfold flip; split <;> split <;> omega
theorem gateF_wf {s : BSt} {g : Gt} (h : BWf s) (hg : g.op ≤ 3 ∧ 1 ≤ g.op ∧ WB g.a ∧ WB g.b) : BWf (gateF s g).1 ∧ WB (gateF s g).2 := by
  unfold gateF
  split
  · exact ⟨⟨h.len, h.zero, h.seen, h.keys, h.nod, h.ab⟩, by unfold WB; omega⟩
  · refine ⟨⟨by simp; omega, h.zero, h.seen, h.keys, h.nod, fun x hx => ?_⟩, by unfold WB; simp; omega⟩
    rcases List.mem_append.1 hx with e | e
    · exact h.ab x e
    · simp at e; subst e; exact hg
theorem gateF_seen (s : BSt) (g : Gt) : (gateF s g).1.seen = s.seen ∧ (gateF s g).1.zero = s.zero := by unfold gateF; split <;> exact ⟨rfl, rfl⟩
theorem zeroF_wf {s : BSt} (h : BWf s) : BWf (zeroF s).1 ∧ WB (zeroF s).2 := by
  unfold zeroF
  split
  · rename_i z hz; exact ⟨h, h.zero z hz⟩
  · have h1 := gateF_wf (g := ⟨1, 0, 0⟩) h (by unfold WB; simp)
    exact ⟨⟨h1.1.len, fun z e => by simp at e; subst e; exact h1.2, h1.1.seen, h1.1.keys, h1.1.nod, h1.1.ab⟩, h1.2⟩
theorem constF_wf {s : BSt} (h : BWf s) (one : Bool) : BWf (constF s one).1 ∧ WB (constF s one).2 := by
  unfold constF
  refine ⟨(zeroF_wf h).1, ?_⟩
  split
  · exact (zeroF_wf h).2.flip
  · exact (zeroF_wf h).2
theorem inputF_wf {s : BSt} (h : BWf s) : BWf (inputF s).1 ∧ WB (inputF s).2 := gateF_wf h (by unfold WB; simp)
theorem look_mem {l : List ((Nat × Nat) × Nat)} {a b w : Nat} (h : look l a b = some w) : ((a, b), w) ∈ l := by
  unfold look at h
  obtain ⟨e, h1, h2⟩ := Option.map_eq_some_iff.1 h
  have h3 := List.mem_of_find?_eq_some h1
  have h4 := List.find?_some h1
  obtain ⟨⟨x, y⟩, z⟩ := e
  simp at h4 h2
  obtain ⟨rfl, rfl⟩ := h4
  subst h2
  exact h3
theorem andS_wf {s : BSt} {a b : Nat} (h : BWf s) (ha : WB a) (hb : WB b) : BWf (andS s a b).1 ∧ WB (andS s a b).2 := by
  unfold andS
  split
  · rename_i w hw; exact ⟨h, h.seen _ (look_mem hw)⟩
  · rename_i hn
    have h1 := gateF_wf (g := ⟨3, a, b⟩) h ⟨by simp, by simp, ha, hb⟩
    refine ⟨⟨h1.1.len, h1.1.zero, fun e he => ?_, fun e he => ?_, ?_, h1.1.ab⟩, h1.2⟩
    · rcases List.mem_cons.1 he with e1 | e1
      · rw [e1]; exact h1.2
      · exact h.seen e e1
    · rcases List.mem_cons.1 he with e1 | e1
      · rw [e1]; exact ⟨ha, hb⟩
      · exact h.keys e e1
    · rw [List.map_cons, List.nodup_cons]
      refine ⟨fun hm => ?_, h.nod⟩
      obtain ⟨e, he, e1⟩ := List.mem_map.1 hm
      unfold look at hn
      rw [Option.map_eq_none_iff, List.find?_eq_none] at hn
      exact hn e he (by simpa using e1)
theorem nodup_len : ∀ (n : Nat) (l : List Nat), l.Nodup → (∀ x ∈ l, x < n) → l.length ≤ n
  | 0, l, _, h => by
    cases l with
    | nil => exact Nat.le_refl _
    | cons x l => exact absurd (h x (by simp)) (Nat.not_lt_zero _)
  | n + 1, l, hd, h => by
    have h1 := nodup_len n (l.erase n) (hd.erase n) (fun x hx => by
      have h2 := h x (List.mem_of_mem_erase hx)
      have h3 : x ≠ n := fun e => by subst e; exact (hd.mem_erase_iff.1 hx).1 rfl
      omega)
    by_cases hm : n ∈ l
    · rw [List.length_erase_of_mem hm] at h1; omega
    · rw [List.erase_of_not_mem hm] at h1; omega
theorem seen_len {s : BSt} (h : BWf s) : s.seen.length ≤ 160000000000 := by
  have h1 := nodup_len 160000000000 ((s.seen.map (·.1)).map fun p => p.1 * 400000 + p.2) (by
    have h2 := h.nod
    have h3 : ∀ p ∈ s.seen.map (·.1), p.2 < 400000 := fun p hp => by
      obtain ⟨e, he, rfl⟩ := List.mem_map.1 hp
      exact (h.keys e he).2
    revert h2 h3
    generalize s.seen.map (·.1) = l
    intro h2 h3
    rw [List.Nodup, List.pairwise_map]
    refine List.Pairwise.imp_of_mem ?_ h2
    intro p q hp hq hne e
    have e1 := h3 p hp
    have e2 := h3 q hq
    exact hne (Prod.ext (by omega) (by omega))) (fun x hx => by
    obtain ⟨p, hp, rfl⟩ := List.mem_map.1 hx
    obtain ⟨e, he, rfl⟩ := List.mem_map.1 hp
    have h4 := h.keys e he
    unfold WB at h4
    omega)
  simpa using h1
theorem andO_wf {s : BSt} {a b : Nat} (h : BWf s) (ha : WB a) (hb : WB b) : BWf (andO s a b).1 ∧ WB (andO s a b).2 := by
  unfold andO
  split
  · exact ⟨h, ha⟩
  split
  · exact zeroF_wf h
  split
  · exact andS_wf h ha hb
  rename_i z hz
  split
  · exact ⟨h, h.zero z hz⟩
  split
  · exact ⟨h, hb⟩
  split
  · exact ⟨h, ha⟩
  · exact andS_wf h ha hb
theorem andF_wf {s : BSt} {a b : Nat} (h : BWf s) (ha : WB a) (hb : WB b) : BWf (andF s a b).1 ∧ WB (andF s a b).2 := by
  unfold andF
  split
  · exact andO_wf h hb ha
  · exact andO_wf h ha hb
theorem orF_wf {s : BSt} {a b : Nat} (h : BWf s) (ha : WB a) (hb : WB b) : BWf (orF s a b).1 ∧ WB (orF s a b).2 := by
  have := andF_wf h ha.flip hb.flip
  exact ⟨this.1, this.2.flip⟩
theorem xorF_wf {s : BSt} {a b : Nat} (h : BWf s) (ha : WB a) (hb : WB b) : BWf (xorF s a b).1 ∧ WB (xorF s a b).2 := by
  have p := andF_wf h ha hb.flip
  have q := andF_wf p.1 ha.flip hb
  exact orF_wf q.1 p.2 q.2
theorem muxF_wf {s : BSt} {c a b : Nat} (h : BWf s) (hc : WB c) (ha : WB a) (hb : WB b) : BWf (muxF c s a b).1 ∧ WB (muxF c s a b).2 := by
  unfold muxF
  split
  · exact ⟨h, ha⟩
  · have p := andF_wf h hc ha
    have q := andF_wf p.1 hc.flip hb
    exact orF_wf q.1 p.2 q.2
/-- A function of two wires that keeps the bounds. -/
def OkF (f : BSt → Nat → Nat → BR) : Prop := ∀ s a b, BWf s → WB a → WB b → BWf (f s a b).1 ∧ WB (f s a b).2
theorem okAnd : OkF andF := fun _ _ _ h ha hb => andF_wf h ha hb
theorem okOr : OkF orF := fun _ _ _ h ha hb => orF_wf h ha hb
theorem okXor : OkF xorF := fun _ _ _ h ha hb => xorF_wf h ha hb
theorem okMux {c : Nat} (hc : WB c) : OkF (muxF c) := fun _ _ _ h ha hb => muxF_wf h hc ha hb
theorem WsB.tail {l : List Nat} (h : WsB l) : WsB l.tail := fun w hw => h w (List.mem_of_mem_tail hw)
theorem WsB.getD {l : List Nat} (h : WsB l) (i : Nat) : WB (l.getD i 0) := by
  by_cases hi : i < l.length
  · rw [List.getD_eq_getElem?_getD, List.getElem?_eq_getElem hi]
    exact h _ (List.getElem_mem _)
  · rw [List.getD_eq_getElem?_getD, List.getElem?_eq_none (by omega)]
    unfold WB; simp
theorem WsB.map {l : List Nat} (h : WsB l) : WsB (l.map flip) := fun w hw => by
  obtain ⟨x, hx, rfl⟩ := List.mem_map.1 hw
  exact (h x hx).flip
theorem WsB.rep {n w : Nat} (h : WB w) : WsB (List.replicate n w) := fun x hx => by rw [(List.mem_replicate.1 hx).2]; exact h
theorem WsB.append {l m : List Nat} (h : WsB l) (h2 : WsB m) : WsB (l ++ m) := fun x hx => (List.mem_append.1 hx).elim (h x) (h2 x)
theorem WsB.take {l : List Nat} (h : WsB l) (n : Nat) : WsB (l.take n) := fun x hx => h x (List.mem_of_mem_take hx)
theorem WsB.drop {l : List Nat} (h : WsB l) (n : Nat) : WsB (l.drop n) := fun x hx => h x (List.mem_of_mem_drop hx)
theorem WsB.one {w : Nat} (h : WB w) : WsB [w] := fun x hx => by simp at hx; subst hx; exact h
theorem WsB.cons {w : Nat} {l : List Nat} (h : WB w) (h2 : WsB l) : WsB (w :: l) := fun x hx => by
  rcases List.mem_cons.1 hx with rfl | e
  · exact h
  · exact h2 x e
theorem WsB.reverse {l : List Nat} (h : WsB l) : WsB l.reverse := fun x hx => h x (List.mem_reverse.1 hx)
theorem WsB.set {l : List Nat} (h : WsB l) {w : Nat} (hw : WB w) (i : Nat) : WsB (l.set i w) := fun x hx => by
  rcases List.mem_or_eq_of_mem_set hx with e | rfl
  · exact h x e
  · exact hw
theorem inputsF_wf : ∀ (n : Nat) {s : BSt}, BWf s → BWf (inputsF n s).1 ∧ WsB (inputsF n s).2 ∧ (inputsF n s).2.length = n
  | 0, _, h => ⟨h, (by unfold WsB; simp [inputsF]), rfl⟩
  | n + 1, s, h => by
    have h1 := inputF_wf h
    have h2 := inputsF_wf n h1.1
    exact ⟨h2.1, WsB.cons h1.2 h2.2.1, congrArg (· + 1) h2.2.2⟩
theorem eachF_wf {f : BSt → Nat → Nat → BR} (hf : OkF f) : ∀ (a b : List Nat) {s : BSt}, BWf s → WsB a → WsB b → BWf (eachF f s a b).1 ∧ WsB (eachF f s a b).2 ∧ (eachF f s a b).2.length = a.length
  | [], _, _, h, _, _ => ⟨h, fun w hw => (by cases hw), rfl⟩
  | x :: a, b, s, h, ha, hb => by
    have h1 := hf s x (b.getD 0 0) h (ha x (by simp)) (hb.getD 0)
    have h2 := eachF_wf hf a b.tail h1.1 ha.tail hb.tail
    exact ⟨h2.1, WsB.cons h1.2 h2.2.1, congrArg (· + 1) h2.2.2⟩
theorem addS_wf {s : BSt} {a b c : Nat} (h : BWf s) (ha : WB a) (hb : WB b) (hc : WB c) : BWf (addS s a b c).1 ∧ WB (addS s a b c).2.1 ∧ WB (addS s a b c).2.2 := by
  have x := xorF_wf h ha hb
  have y := xorF_wf x.1 x.2 hc
  have p := andF_wf y.1 ha hb
  have q := andF_wf p.1 x.2 hc
  have o := orF_wf q.1 p.2 q.2
  exact ⟨o.1, y.2, o.2⟩
theorem sumF_wf : ∀ (a b : List Nat) {s : BSt} {c : Nat}, BWf s → WsB a → WsB b → WB c → BWf (sumF s a b c).1 ∧ WsB (sumF s a b c).2.1 ∧ WB (sumF s a b c).2.2 ∧ (sumF s a b c).2.1.length = a.length
  | [], _, _, _, h, _, _, hc => ⟨h, fun w hw => (by cases hw), hc, rfl⟩
  | x :: a, b, s, c, h, ha, hb, hc => by
    have h1 := addS_wf h (ha x (by simp)) (hb.getD 0) hc
    have h2 := sumF_wf a b.tail h1.1 ha.tail hb.tail h1.2.2
    exact ⟨h2.1, WsB.cons h1.2.1 h2.2.1, h2.2.2.1, congrArg (· + 1) h2.2.2.2⟩
theorem lessF_wf {s : BSt} {a b : List Nat} (h : BWf s) (ha : WsB a) (hb : WsB b) : BWf (lessF s a b).1 ∧ WsB (lessF s a b).2.1 ∧ WB (lessF s a b).2.2 ∧ (lessF s a b).2.1.length = a.length :=
  sumF_wf a _ (constF_wf h true).1 ha hb.map (constF_wf h true).2
theorem negF_wf {s : BSt} {a : List Nat} (h : BWf s) (ha : WsB a) : BWf (negF s a).1 ∧ WsB (negF s a).2 ∧ (negF s a).2.length = a.length := by
  have z := zeroF_wf h
  have c := constF_wf z.1 true
  have r := sumF_wf (a.map flip) (List.replicate a.length (zeroF s).2) c.1 ha.map (WsB.rep z.2) c.2
  exact ⟨r.1, r.2.1, by rw [← List.length_map (f := flip) (as := a)]; exact r.2.2.2⟩
theorem anyG_wf : ∀ (l : List Nat) {s : BSt} {o : Nat}, BWf s → WB o → WsB l → BWf (anyG s o l).1 ∧ WB (anyG s o l).2
  | [], _, _, h, ho, _ => ⟨h, ho⟩
  | w :: l, s, o, h, ho, hl => by
    have h1 := orF_wf h ho (hl w (by simp))
    exact anyG_wf l h1.1 h1.2 hl.tail
theorem anyF_wf {s : BSt} {l : List Nat} (h : BWf s) (hl : WsB l) : BWf (anyF s l).1 ∧ WB (anyF s l).2 := anyG_wf l (zeroF_wf h).1 (zeroF_wf h).2 hl
theorem chooseF_wf {s : BSt} {c : Nat} {a b : List Nat} (h : BWf s) (hc : WB c) (ha : WsB a) (hb : WsB b) : BWf (chooseF s c a b).1 ∧ WsB (chooseF s c a b).2 ∧ (chooseF s c a b).2.length = a.length := eachF_wf (okMux hc) a b h ha hb
end Go.Proofs.YtdjnekcpeaadhaaGreat

/-
  The walks of the document's own reader: what it keeps while it reads a program.
  Conditions: no more bytes than 10000.
-/
import Derived.Test.YtipfcfaigbeakaaCodeRefQ
import Derived.Test.YtipfcfaigbeakaaCodeParseD
import Derived.Test.YtipfcfaigbeakaaCodeRefW
import Derived.Test.YtipfcfaigbeakaaKit6
namespace Go.Proofs.Ytipfcfaigbeakaa
open Go.RowKit
set_option linter.unusedSimpArgs false
set_option linter.unusedVariables false
set_option maxRecDepth 100000

def head5 (p : List Int × List Int) : Option CodeV := match p.1 with | [k, i, o, c, s] => rest5 k i o c s p.2 | _ => none
theorem take_head5 (b : List Int) : takeV b = (readsV 5 b).bind head5 := by
  unfold takeV
  cases h1 : readV b with
  | none => simp [readsV, h1]
  | some p1 =>
    cases h2 : readV p1.2 with
    | none => simp [readsV, h1, h2]
    | some p2 =>
      cases h3 : readV p2.2 with
      | none => simp [readsV, h1, h2, h3]
      | some p3 =>
        cases h4 : readV p3.2 with
        | none => simp [readsV, h1, h2, h3, h4]
        | some p4 =>
          cases h5 : readV p4.2 with
          | none => simp [readsV, h1, h2, h3, h4, h5]
          | some p5 => simp [readsV, h1, h2, h3, h4, h5, head5, rest5, rest6, rest7, rest8]
theorem Lst.full {n : Nat} {l l' done : List Int} (h : Lst n l false false done l') (hn : n ≤ done.length) : readsV n l = some (done, l') ∧ done.length = n := by
  obtain ⟨_, h1, h2, _⟩ := h.1 rfl
  refine ⟨?_, by omega⟩
  rw [h2, show n - done.length = 0 by omega]
  simp [readsV]
theorem five {l : List Int} (h : l.length = 5) : ∃ k i o c s, l = [k, i, o, c, s] := by
  match l, h with
  | [k, i, o, c, s], _ => exact ⟨k, i, o, c, s, rfl⟩
theorem Acc.num {l0 l : List Int} {k k' : Nat} {bad bad' : Bool} {v : Int} {f : Int × List Int → Option CodeV} (h : Acc l0 bad ((readV (l.drop k)).bind f)) (hm : Nm l k bad v k' bad') : Acc l0 bad' (f (v, l.drop k')) := by
  have hr := h.read
  cases hb : rdB (l.drop k) with
  | false =>
    obtain ⟨rfl, e, rfl⟩ := hm.good hb
    rw [hb, Bool.or_false] at hr
    rw [e]; exact hr
  | true =>
    obtain ⟨rfl, rfl⟩ := hm.fails hb
    rw [hb, Bool.or_true] at hr
    exact ⟨fun e => (by cases e), fun _ => hr.2 rfl⟩
theorem Nm.bad_stays {l : List Int} {k k' : Nat} {bad' : Bool} {v : Int} (h : Nm l k true v k' bad') : bad' = true := by
  cases hb : rdB (l.drop k) with
  | false => exact (h.good hb).2.2
  | true => exact (h.fails hb).2
theorem LstQ.bad_any {n : Nat} {l l1 l2 : List Int} {d1 d2 : List InsV} {b0 : Bool} (h : LstQ n l b0 true d1 l1) : LstQ n l b0 true d2 l2 := ⟨fun e => (by cases e), h.2⟩
theorem LstQ.nums {n : Nat} {l : List Int} {b0 b2 b3 b4 : Bool} {done : List InsV} {k0 k1 k2 k3 k4 : Nat} {v1 v2 v3 : Int} (h : LstQ n (l.drop k0) b0 false done (l.drop k1)) (hn : done.length < n) (m1 : Nm l k1 false v1 k2 b2) (m2 : Nm l k2 b2 v2 k3 b3) (m3 : Nm l k3 b3 v3 k4 b4) :
    LstQ n (l.drop k0) b0 b4 (done ++ [⟨v1, v2, v3⟩]) (l.drop k4) := by
  have hs := h.step hn
  cases r1 : rdB (l.drop k1) with
  | true =>
    obtain ⟨-, rfl⟩ := m1.fails r1
    obtain rfl := m2.bad_stays
    obtain rfl := m3.bad_stays
    rw [r1, Bool.true_or, Bool.true_or] at hs
    exact hs.bad_any
  | false =>
    obtain ⟨rfl, e1, rfl⟩ := m1.good r1
    rw [← e1] at hs
    cases r2 : rdB (l.drop k2) with
    | true =>
      obtain ⟨-, rfl⟩ := m2.fails r2
      obtain rfl := m3.bad_stays
      rw [r1, r2, Bool.false_or, Bool.true_or] at hs
      exact hs.bad_any
    | false =>
      obtain ⟨rfl, e2, rfl⟩ := m2.good r2
      rw [← e2] at hs
      cases r3 : rdB (l.drop k3) with
      | true =>
        obtain ⟨-, rfl⟩ := m3.fails r3
        rw [r1, r2, r3] at hs
        exact hs.bad_any
      | false =>
        obtain ⟨rfl, e3, rfl⟩ := m3.good r3
        rw [← e3, r1, r2, r3] at hs
        exact hs
theorem bytesI_inj : ∀ {l m : List Int}, (∀ x ∈ l, 0 ≤ x ∧ x < 256) → (∀ x ∈ m, 0 ≤ x ∧ x < 256) → l.map (fun n => UInt8.ofNat n.toNat) = m.map (fun n => UInt8.ofNat n.toNat) → l = m := by
  intro l m hl hm h1
  induction l generalizing m with
  | nil => cases m with
    | nil => rfl
    | cons y m => simp at h1
  | cons x l ih => cases m with
    | nil => simp at h1
    | cons y m =>
      simp only [List.map_cons, List.cons.injEq] at h1
      have hx := hl x (by simp)
      have hy := hm y (by simp)
      have e := congrArg UInt8.toNat h1.1
      simp only [UInt8.toNat_ofNat'] at e
      have : x = y := by omega
      rw [this, ih (fun z hz => hl z (by simp [hz])) (fun z hz => hm z (by simp [hz])) h1.2]
theorem strOfNums_inj {l m : List Int} (hl : ∀ x ∈ l, 0 ≤ x ∧ x < 256) (hm : ∀ x ∈ m, 0 ≤ x ∧ x < 256) (h : strOfNums l = strOfNums m) : l = m :=
  bytesI_inj hl hm (by rw [← strOfNums_data, ← strOfNums_data, h])
/-- The reader's block, the program's block, the result's block. -/
structure RS (W : World) (X RB C : Nat) (s : Value) (k : Nat) (bad : Bool) (vs : List Value) (w : World) : Prop where
  ext : Ext W w
  rb : BoxV RB [s, .int .i64 (k : Int), .bool bad] w
  box : BoxV C vs w
  blk : w.heap[X]? = some (.cells zeroK 25)
section
variable {W : World} {X RB C : Nat} {a : Option Addr} {cap : Nat} {l : List Int} {k : Nat} {bad : Bool} {vs : List Value} {w : World} (hne : W.heap.size ≤ X ∧ X < RB ∧ RB < C) (hl : l.length ≤ 10000) (hv : SlC W (.slice a l.length cap) l.length (u8s l)) (hlb : ∀ x ∈ l, 0 ≤ x ∧ x < 256)
include hne hl hv hlb
theorem RS.num (h : RS W X RB C (.slice a l.length cap) k bad vs w) (hk : k ≤ l.length) : Calls Try.prog 56 #[.pointer (some ⟨RB, 0, none⟩)] w fun e w' => ∃ (v : Int) (k' : Nat) (bad' : Bool), e = .returned (.int .i64 v) ∧ RS W X RB C (.slice a l.length cap) k' bad' vs w' ∧ Two RB RB w w' ∧ Nm l k bad v k' bad' := by
  refine (refNum_any W RB a cap l k bad w hl hk hv hlb h.ext (by omega) h.rb).mono ?_
  rintro e w' ⟨v, k', bad', rfl, hb, ht, hm⟩
  exact ⟨v, k', bad', rfl, ⟨ht.ext h.ext (by omega) (by omega), hb, h.box.two ht (by omega) (by omega), two_block ht (by omega) (by omega) h.blk⟩, ht, hm⟩
theorem RS.list (h : RS W X RB C (.slice a l.length cap) k bad vs w) (hk : k ≤ l.length) (n : Int) (hn : I64 n) : Calls Try.prog 55 #[.pointer (some ⟨RB, 0, none⟩), .int .i64 n] w fun e w' => ∃ (v : Value) (ks : List Int) (k' : Nat) (bad' : Bool), e = .returned v ∧ w'.ownsRow w.heap.size 3 1 v ks.length (i64s ks) ∧ RS W X RB C (.slice a l.length cap) k' bad' vs w' ∧ Two RB RB w w' ∧ Nl l k bad n ks k' bad' := by
  refine (refList_any W RB a cap l k bad n w hn hl hk hv hlb h.ext (by omega) h.rb).mono ?_
  rintro e w' ⟨v, ks, k', bad', rfl, ho, hb, ht, hm⟩
  exact ⟨v, ks, k', bad', rfl, ho, ⟨ht.ext h.ext (by omega) (by omega), hb, h.box.two ht (by omega) (by omega), two_block ht (by omega) (by omega) h.blk⟩, ht, hm⟩
end
theorem RS.put {W : World} {X RB C : Nat} {s : Value} {k : Nat} {bad : Bool} {vs : List Value} {w : World} (hne : W.heap.size ≤ X ∧ X < RB ∧ RB < C) (h : RS W X RB C s k bad vs w) (j : Nat) (u : Value) : RS W X RB C s k bad (vs.set j u) (w.setCell ⟨C, j, none⟩ u) := by
  refine ⟨h.ext.setCell (by simp; omega) u, ⟨fun j' u' hu => ?_, fun j' => by simp; exact h.rb.fz j', by simp; exact h.rb.lt⟩, h.box.put j u, set_block (by omega) j u h.blk⟩
  rw [World.cell?_setCell_other _ _ _ _ (by intro e; simp only [Addr.mk.injEq] at e; omega)]
  exact h.rb.cells j' u' hu
theorem RS.alloc {W : World} {X RB C : Nat} {s : Value} {k : Nat} {bad : Bool} {vs : List Value} {w : World} (h : RS W X RB C s k bad vs w) (o : Obj) : RS W X RB C s k bad vs (w.alloc o) := ⟨h.ext.alloc o, h.rb.ext ((Ext.refl w).alloc o), h.box.ext ((Ext.refl w).alloc o), ext_block ((Ext.refl w).alloc o) h.blk⟩
theorem RS.drew {W : World} {X RB C : Nat} {s : Value} {k : Nat} {bad : Bool} {vs : List Value} {w : World} (h : RS W X RB C s k bad vs w) : RS W X RB C s k bad vs w.drew := ⟨h.ext.drew, h.rb.drew, h.box.drew, drew_block h.blk⟩
/-- The same where the instructions are read. -/
structure QR (W : World) (X RB C M : Nat) (s : Value) (k : Nat) (bad : Bool) (vs : List Value) (kv : Value) (ks : List Int) (iv : Value) (is : List Int) (bv : Value) (done : List InsV) (w : World) : Prop where
  rs : RS W X RB C s k bad vs w
  two : Two2 (C + 1) M kv ks iv is w
  own : w.ownsRow M 33 3 bv done.length (insCells done)
  size : M ≤ w.heap.size
section
variable {W : World} {X RB C M : Nat} {a : Option Addr} {cap : Nat} {l : List Int} {k : Nat} {bad : Bool} {vs : List Value} {kv iv bv : Value} {ks is : List Int} {done : List InsV} {w : World} (hne : W.heap.size ≤ X ∧ X < RB ∧ RB < C) (hM : C < M)
include hne hM
theorem QR.num (hl : l.length ≤ 10000) (hv : SlC W (.slice a l.length cap) l.length (u8s l)) (hlb : ∀ x ∈ l, 0 ≤ x ∧ x < 256) (h : QR W X RB C M (.slice a l.length cap) k bad vs kv ks iv is bv done w) (hk : k ≤ l.length) :
    Calls Try.prog 56 #[.pointer (some ⟨RB, 0, none⟩)] w fun e w' => ∃ (v : Int) (k' : Nat) (bad' : Bool), e = .returned (.int .i64 v) ∧ QR W X RB C M (.slice a l.length cap) k' bad' vs kv ks iv is bv done w' ∧ Nm l k bad v k' bad' := by
  refine (RS.num hne hl hv hlb h.rs hk).mono ?_
  rintro e w' ⟨v, k', bad', rfl, h1, ht, hm⟩
  exact ⟨v, k', bad', rfl, ⟨h1, h.two.two ht (by omega) (by omega), ht.row' h.own (by omega) (by omega), Nat.le_trans h.size ht.size⟩, hm⟩
theorem QR.append {s : Value} {bv' : Value} {done' : List InsV} {w' : World} {o : Obj} (h : QR W X RB C M s k bad vs kv ks iv is bv done w) (hg : (w.alloc o).grownBy w' bv.ownBlock) (ho : w'.ownsRow M 33 3 bv' done'.length (insCells done')) : QR W X RB C M s k bad vs kv ks iv is bv' done' w' := by
  have hb : Below M w w' := below_grown (base := M) (Below.alloc (Below.refl _ _) h.size _) (Nat.le_refl _) (by have := h.size; simp; omega) (h.own.alloc _) hg
  exact ⟨⟨Below.trans h.rs.ext (Below.mono hb (by omega)), h.rs.rb.below hb (by omega), h.rs.box.below hb hM, by rw [Below.block hb X (by omega)]; exact h.rs.blk⟩, h.two.below hb, ho, Nat.le_trans h.size hb.size⟩
end
theorem QR.drew {W : World} {X RB C M : Nat} {s : Value} {k : Nat} {bad : Bool} {vs : List Value} {kv iv bv : Value} {ks is : List Int} {done : List InsV} {w : World} (h : QR W X RB C M s k bad vs kv ks iv is bv done w) : QR W X RB C M s k bad vs kv ks iv is bv done w.drew :=
  ⟨h.rs.drew, h.two.ext (Ext.refl w).drew, ownsRow_ext h.own (Ext.refl w).drew, h.size⟩
end Go.Proofs.Ytipfcfaigbeakaa

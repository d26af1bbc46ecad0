/-
  The walks of the program's code: a number off the bytes.
  No condition.
  The walks of the program's code: the state in which bytes are read.
  No condition.
  The walks of the program's code: so many numbers off the bytes.
  Conditions: there are no more bytes than the program takes.
  The walks of the program's code: what Parse keeps while it reads.
  No condition.
-/
import Derived.Test.YtipfcfaigbeakaaJNumber
import Derived.Test.YtipfcfaigbeakaaJPlainB
import Derived.WalkMore
import Derived.Test.YtipfcfaigbeakaaJLaw
import Derived.Laws.CopyOwn
namespace Go.Proofs.Ytipfcfaigbeakaa
open Go.RowKit
set_option maxRecDepth 100000

theorem rdU_end {i u : Nat} {l : List Int} (f : Nat) (h : l = []) : rdU f i u l = none := by subst h; cases f <;> rfl
/-- What a reader's call leaves. -/
def RdR (W : World) (R : Nat) (l : List Int) (w : World) (e : Ending) (w' : World) : Prop :=
  match readV l with
  | some p => ∃ v', e = .returned (.tuple #[.int .i64 p.1, .bool true]) ∧ w' = w.setCell ⟨R, 0, none⟩ v' ∧ SlC W v' p.2.length (u8s p.2)
  | none => e = .returned (.tuple #[.int .i64 0, .bool false]) ∧ w' = w

theorem or_step {x : Int} {U I : Nat} (_hx : 0 ≤ x) (hI : I < 10) (hU : U < 2 ^ (7 * I)) : bits .or .u64 (U : Int) (IntKind.u64.wrap (x % 128 * 2 ^ (7 * I))) = (((U + (x % 128).toNat * 2 ^ (7 * I)) % 18446744073709551616 : Nat) : Int) := by
  rw [← or_cut (p := 7 * I) (by omega) hU, u64w7]
  have e : x % 128 * 2 ^ (7 * I) = (((x % 128).toNat * 2 ^ (7 * I) : Nat) : Int) := by
    rw [Int.natCast_mul, Int.natCast_pow, Int.toNat_of_nonneg (by omega)]; rfl
  rw [e]
  congr 1
theorem unzig_bits {U : Nat} (h : U < 18446744073709551616) : bits .xor .i64 ((U : Int) / 2) (wrap64 (-wrap64 (bits .and .u64 (U : Int) 1))) = unzig U := by
  rw [and_one h]
  rcases Nat.mod_two_eq_zero_or_one U with h2 | h2
  · rw [h2, show wrap64 (-wrap64 ((0 : Nat) : Int)) = 0 by simp [wrap64], xor_zero (by omega)]
    unfold unzig; rw [if_pos h2]; omega
  · rw [h2, show wrap64 (-wrap64 ((1 : Nat) : Int)) = -1 by simp [wrap64], xor_ones (by omega)]
    unfold unzig; rw [if_neg (by omega)]; omega
theorem readV_stop {l : List Int} {I U : Nat} {x : Int} (h : rdU (10 - I) I U (l.drop I) = rdU 10 0 0 l) (hI : I < 10) (hx : l[I]? = some x) (hlt : x < 128) : readV l = some (unzig ((U + (x % 128).toNat * 2 ^ (7 * I)) % 18446744073709551616), l.drop (I + 1)) := by
  obtain ⟨hi, e⟩ := List.getElem?_eq_some_iff.1 hx
  unfold readV
  rw [← h, List.drop_eq_getElem_cons hi, e, show 10 - I = (9 - I) + 1 by omega, rdU, if_pos hlt]; rfl
theorem rdU_on {l : List Int} {I U : Nat} {x : Int} (h : rdU (10 - I) I U (l.drop I) = rdU 10 0 0 l) (hI : I < 10) (hx : l[I]? = some x) (hlt : ¬ x < 128) : rdU (10 - (I + 1)) (I + 1) ((U + (x % 128).toNat * 2 ^ (7 * I)) % 18446744073709551616) (l.drop (I + 1)) = rdU 10 0 0 l := by
  obtain ⟨hi, e⟩ := List.getElem?_eq_some_iff.1 hx
  rw [← h, List.drop_eq_getElem_cons hi, e, show 10 - I = (10 - (I + 1)) + 1 by omega, rdU, if_neg hlt]
theorem up_lt {U I m : Nat} (hU : U < 2 ^ (7 * I)) (hm : m < 128) : (U + m * 2 ^ (7 * I)) % 18446744073709551616 < 2 ^ (7 * (I + 1)) := by
  have hp : 2 ^ (7 * (I + 1)) = 128 * 2 ^ (7 * I) := by rw [show 7 * (I + 1) = 7 + 7 * I by omega, Nat.pow_add]
  have hle : m * 2 ^ (7 * I) ≤ 127 * 2 ^ (7 * I) := Nat.mul_le_mul_right _ (by omega)
  refine Nat.lt_of_le_of_lt (Nat.mod_le _ _) ?_
  rw [hp]; omega
theorem SlC.tail {W : World} {b o cap : Nat} {l : List Int} (h : SlC W (.slice (some ⟨b, o, none⟩) l.length cap) l.length (u8s l)) (k : Nat) (hk : k ≤ l.length) (p : Addr) (hp : k < l.length → p = ⟨b, o + k, none⟩) : SlC W (.slice (some p) (l.length - k) (cap - k)) (l.drop k).length (u8s (l.drop k)) := by
  obtain ⟨a, cap', e, h1, h2, hc⟩ := h
  simp only [Value.slice.injEq] at e
  obtain ⟨rfl, -, rfl⟩ := e
  rw [List.length_drop]
  refine ⟨_, _, rfl, by omega, by omega, fun j u hu => ?_⟩
  have hj : k + j < l.length := by
    have := (List.getElem?_eq_some_iff.1 hu).1
    simp at this; omega
  obtain rfl := hp (by omega)
  have hu' : (u8s l)[k + j]? = some u := by
    simp only [List.map_drop, List.getElem?_drop] at hu
    exact hu
  obtain ⟨b', o', e2, hcell⟩ := hc (k + j) u hu'
  simp only [Option.some.injEq, Addr.mk.injEq] at e2
  obtain ⟨rfl, rfl, -⟩ := e2
  exact ⟨_, _, rfl, by rw [Nat.add_assoc]; exact hcell⟩
set_option maxHeartbeats 2000000 in
theorem readStep_any (W : World) (R : Nat) (v : Value) (l : List Int) (w : World) (hR : w.cell? ⟨R, 0, none⟩ = some v) (hf : w.frozen? ⟨R, 0, none⟩ = false) (hv : SlC W v l.length (u8s l)) (hx : Ext W w) (hl : ∀ x ∈ l, 0 ≤ x ∧ x < 256) :
    Calls Try.prog 78 #[.pointer (some ⟨R, 0, none⟩)] w (RdR W R l w) := by
  obtain ⟨a, cap, rfl, h1, h2, hc⟩ := id hv
  have HC := Lib.hid hc
  have hln := nat64 h1 h2
  have hlm : l.length ≤ 9223372036854775807 := Nat.le_trans h1 (Nat.le_trans h2 (by decide))
  have HV := Lib.hid hv
  have HCAP := Lib.hid (And.intro h1 h2)
  obtain ⟨Q, hQ⟩ : ∃ Q, Q = RdR W R l w := ⟨_, rfl⟩
  rw [← hQ]
  have HQ := Lib.hid hQ
  have HL := Lib.hid hl
  clear hc hQ hv h2 hl
  go_enter Try.func78, Try.ntmps78
  go_wp2
  go_step3
  go_wp2
  go_step3
  go_wp2
  go_loopw [3, 4] (fun u i wr => ∃ (U I : Nat), u = .int .u64 U ∧ i = .int .i64 I ∧ I ≤ 10 ∧ I ≤ l.length ∧ wr = w ∧ Hid (U < 2 ^ (7 * I)) ∧ U < 18446744073709551616 ∧ Hid (rdU (10 - I) I U (l.drop I) = rdU 10 0 0 l)) (fun _ i _ => 10 - (intOf i).toNat)
  case atStart => exact ⟨0, 0, rfl, rfl, by omega, Nat.zero_le _, rfl, Lib.hid (by decide), by decide, Lib.hid rfl⟩
  case round =>
    obtain ⟨U, I, rfl, rfl, hI, hIl, rfl, HU, hU, HR⟩ := hrel
    by_cases hend : l.length ≤ I ∨ 10 ≤ I
    · have HN : Hid (readV l = none) := Lib.hid (by
        unfold readV
        rw [← HR.out]
        rcases hend with h | h
        · rw [rdU_end _ (List.drop_eq_nil_of_le h)]; rfl
        · obtain rfl : I = 10 := by omega
          rfl)
      have hd : (decide ((l.length : Int) ≤ I) || decide (10 ≤ (I : Int))) = true := by simp; omega
      go_wp2
      all_goals first | omega | (rw [HQ.out]; unfold RdR; rw [HN.out]; exact ⟨rfl, rfl⟩) | trace_state
    · have h10 : I < 10 := by omega
      have hIl2 : I < l.length := by omega
      obtain ⟨x, hx0⟩ : ∃ x, l[I]? = some x := ⟨_, List.getElem?_eq_getElem hIl2⟩
      obtain ⟨b, o, rfl, hcell⟩ := HC.out I (.int .u8 x) (by simp [hx0])
      replace hcell := hx.cell hcell
      have hxb := HL.out x (List.mem_of_getElem? hx0)
      have HX := Lib.hid hx0
      have ha127 := and127 hxb
      clear hx0 hend
      have hor := or_step hxb.1 h10 HU.out
      by_cases hlt : x < 128
      · have HS : Hid (readV l = some (unzig ((U + (x % 128).toNat * 2 ^ (7 * I)) % 18446744073709551616), l.drop (I + 1))) := Lib.hid (readV_stop HR.out h10 HX.out hlt)
        obtain ⟨U', hU'⟩ : ∃ U', U' = (U + (x % 128).toNat * 2 ^ (7 * I)) % 18446744073709551616 := ⟨_, rfl⟩
        have hUl : U' < 18446744073709551616 := by rw [hU']; exact Nat.mod_lt _ (by decide)
        rw [← hU'] at HS hor
        have HZ := Lib.hid (unzig_bits hUl)
        clear hU'
        go_wp2
        all_goals
          rw [HQ.out]
          unfold RdR
          rw [HS.out]
          refine ⟨_, congrArg (fun z => Ending.returned (.tuple #[.int .i64 z, .bool true])) HZ.out, rfl, ?_⟩
          first
          | exact HV.out.tail (I + 1) (by omega) ⟨b, o + (I + 1), none⟩ (fun _ => rfl)
          | (have hc0 : cap - (I + 1) = 0 := by omega
             have := HV.out.tail (I + 1) (by omega) ⟨b, o, none⟩ (fun h => by have := HCAP.out.1; omega)
             rw [hc0] at this; exact this)
      · have HO : Hid (rdU (10 - (I + 1)) (I + 1) ((U + (x % 128).toNat * 2 ^ (7 * I)) % 18446744073709551616) (l.drop (I + 1)) = rdU 10 0 0 l) := Lib.hid (rdU_on HR.out h10 HX.out hlt)
        have HL2 : Hid ((U + (x % 128).toNat * 2 ^ (7 * I)) % 18446744073709551616 < 2 ^ (7 * (I + 1))) := Lib.hid (up_lt HU.out (by omega))
        obtain ⟨U', hU'⟩ : ∃ U', U' = (U + (x % 128).toNat * 2 ^ (7 * I)) % 18446744073709551616 := ⟨_, rfl⟩
        have hUl : U' < 18446744073709551616 := by rw [hU']; exact Nat.mod_lt _ (by decide)
        rw [← hU'] at HO HL2 hor
        clear hU'
        go_wp2
        go_roundw
        case rel => exact ⟨U', I + 1, rfl, by go_num, by omega, by omega, trivial, HL2, hUl, HO⟩
        case measure => simp [intOf]; omega
end Go.Proofs.Ytipfcfaigbeakaa

namespace Go.Proofs.Ytipfcfaigbeakaa
open Go.RowKit
set_option maxRecDepth 100000

/-- All that was there but the blocks R and D is as it was. -/
structure Two (R D : Nat) (w w' : World) : Prop where
  os : w'.os = w.os
  tape : w'.tape = w.tape
  output : w'.output = w.output
  size : w.heap.size ≤ w'.heap.size
  block : ∀ k, k < w.heap.size → k ≠ R → k ≠ D → w'.heap[k]? = w.heap[k]?
theorem Two.of_ext {R D : Nat} {w w' : World} (h : Ext w w') : Two R D w w' := ⟨h.os, h.tape, h.output, h.size, fun k hk _ _ => Below.block h k hk⟩
theorem Two.refl (R D : Nat) (w : World) : Two R D w w := Two.of_ext (Ext.refl w)
theorem Two.trans {R D : Nat} {a b c : World} (h : Two R D a b) (k : Two R D b c) : Two R D a c := ⟨k.os.trans h.os, k.tape.trans h.tape, k.output.trans h.output, Nat.le_trans h.size k.size, fun i hi h1 h2 => (k.block i (Nat.lt_of_lt_of_le hi h.size) h1 h2).trans (h.block i hi h1 h2)⟩
theorem Two.set {R D : Nat} (w : World) (b : Nat) (hb : b = R ∨ b = D) (u : Value) : Two R D w (w.setCell ⟨b, 0, none⟩ u) := by
  have hb2 : Below b w (w.setCell ⟨b, 0, none⟩ u) := Below.setCell (Below.refl b w) (Nat.le_refl _) u
  exact ⟨hb2.os, hb2.tape, hb2.output, by simp, fun k _ h1 h2 => Below.heap_setCell w ⟨b, 0, none⟩ u k (by show k ≠ b; omega)⟩
theorem Two.ext {R D : Nat} {W w w' : World} (h : Two R D w w') (hx : Ext W w) (hR : W.heap.size ≤ R) (hD : W.heap.size ≤ D) : Ext W w' :=
  Below.trans hx ⟨h.os, h.tape, h.output, h.size, fun k hk => h.block k (Nat.lt_of_lt_of_le hk hx.size) (by omega) (by omega)⟩
theorem Two.cell {R D : Nat} {w w' : World} (h : Two R D w w') {b o : Nat} {u : Value} (hR : b ≠ R) (hD : b ≠ D) (hc : w.cell? ⟨b, o, none⟩ = some u) : w'.cell? ⟨b, o, none⟩ = some u := by
  have hb := World.block_lt_of_cell? w _ hc
  rw [← hc]; unfold World.cell?; simp only [h.block b hb hR hD]
theorem Two.frozen {R D : Nat} {w w' : World} (h : Two R D w w') {b o : Nat} (hb : b < w.heap.size) (hR : b ≠ R) (hD : b ≠ D) : w'.frozen? ⟨b, o, none⟩ = w.frozen? ⟨b, o, none⟩ := by
  unfold World.frozen?; simp only [h.block b hb hR hD]
theorem Two.row {R D : Nat} {w w' : World} (h : Two R D w w') {base : Nat} {e : TypeId} {size : Nat} {v : Value} {n : Nat} {xs : List Value} (ho : w.ownsRow base e size v n xs) (hR : v.ownBlock ≠ some R) (hD : v.ownBlock ≠ some D) : w'.ownsRow base e size v n xs := by
  refine ⟨ho.1, ho.2.imp id ?_⟩
  rintro ⟨g, cap, cur, rfl, h1, h2, r⟩
  exact ⟨g, cap, cur, rfl, h1, by rw [h.block g (Array.getElem?_eq_some_iff.1 h2).1 (by intro e; exact hR (by rw [e]; rfl)) (by intro e; exact hD (by rw [e]; rfl))]; exact h2, r⟩
/-- A row that lies behind both blocks. -/
theorem Two.row' {R D : Nat} {w w' : World} (h : Two R D w w') {base : Nat} {e : TypeId} {size : Nat} {v : Value} {n : Nat} {xs : List Value} (ho : w.ownsRow base e size v n xs) (hR : R < base) (hD : D < base) : w'.ownsRow base e size v n xs :=
  h.row ho (fun e => by have := (ho.lt _ e).1; omega) (fun e => by have := (ho.lt _ e).1; omega)

/-- The four blocks of a reading: the reader's bytes (R), the reader (N), whether something was bad (D), the closure that reads (F). -/
structure Rd (W : World) (R N D F : Nat) (l : List Int) (bad : Bool) (w : World) : Prop where
  ext : Ext W w
  geR : W.heap.size ≤ R
  geD : W.heap.size ≤ D
  RN : R ≠ N
  RD : R ≠ D
  RF : R ≠ F
  ND : N ≠ D
  DF : D ≠ F
  row : ∃ v, w.cell? ⟨R, 0, none⟩ = some v ∧ SlC W v l.length (u8s l)
  bytes : ∀ x ∈ l, 0 ≤ x ∧ x < 256
  fzR : w.frozen? ⟨R, 0, none⟩ = false
  next : w.cell? ⟨N, 0, none⟩ = some (.func (.func 78) #[] #[.pointer (some ⟨R, 0, none⟩)])
  bad : w.cell? ⟨D, 0, none⟩ = some (.bool bad)
  fzD : w.frozen? ⟨D, 0, none⟩ = false
  read : w.cell? ⟨F, 0, none⟩ = some (.func (.func 52) #[] #[.pointer (some ⟨N, 0, none⟩), .pointer (some ⟨D, 0, none⟩)])
theorem Rd.ext' {W : World} {R N D F : Nat} {l : List Int} {bad : Bool} {w w' : World} (h : Rd W R N D F l bad w) (hx : Ext w w') : Rd W R N D F l bad w' :=
  { h with
    ext := h.ext.trans hx
    row := by obtain ⟨v, h1, h2⟩ := h.row; exact ⟨v, hx.cell h1, h2⟩
    fzR := by obtain ⟨v, h1, h2⟩ := h.row; rw [hx.frozens R 0 (World.block_lt_of_cell? w _ h1)]; exact h.fzR
    next := hx.cell h.next
    bad := hx.cell h.bad
    fzD := by rw [hx.frozens D 0 (World.block_lt_of_cell? w _ h.bad)]; exact h.fzD
    read := hx.cell h.read }
theorem Rd.two {W : World} {R N D F : Nat} {l l' : List Int} {bad bad' : Bool} {w w' : World} (h : Rd W R N D F l bad w) (ht : Two R D w w') (v : Value) (hv : w'.cell? ⟨R, 0, none⟩ = some v) (hs : SlC W v l'.length (u8s l')) (hb : ∀ x ∈ l', 0 ≤ x ∧ x < 256) (hR : w'.frozen? ⟨R, 0, none⟩ = false) (hD : w'.cell? ⟨D, 0, none⟩ = some (.bool bad')) (hfD : w'.frozen? ⟨D, 0, none⟩ = false) : Rd W R N D F l' bad' w' where
  ext := ht.ext h.ext h.geR h.geD
  geR := h.geR
  geD := h.geD
  RN := h.RN
  RD := h.RD
  RF := h.RF
  ND := h.ND
  DF := h.DF
  row := ⟨v, hv, hs⟩
  bytes := hb
  fzR := hR
  next := ht.cell h.RN.symm h.ND h.next
  bad := hD
  fzD := hfD
  read := ht.cell h.RF.symm h.DF.symm h.read
set_option maxHeartbeats 1000000 in
theorem read_any {W : World} {R N D F : Nat} {l : List Int} {bad : Bool} {w : World} (h : Rd W R N D F l bad w) :
    Calls Try.prog 52 #[.pointer (some ⟨N, 0, none⟩), .pointer (some ⟨D, 0, none⟩)] w fun e w' => e = .returned (.int .i64 (rdN l)) ∧ Rd W R N D F (rdL l) (bad || rdB l) w' ∧ Two R D w w' := by
  obtain ⟨v, hv, hs⟩ := h.row
  have HS := Lib.hid (readStep_any W R v l w hv h.fzR hs h.ext h.bytes)
  have HH := Lib.hid h
  have q1 := h.next
  have q2 := h.bad
  have q3 := h.fzD
  have hRD := h.RD
  have hND := h.ND
  cases hr : readV l with
  | none =>
    have e1 : rdN l = 0 := by unfold rdN; rw [hr]
    have e2 : rdL l = l := by unfold rdL; rw [hr]
    have e3 : rdB l = true := by unfold rdB; rw [hr]; rfl
    rw [e1, e2, e3]
    have HR := Lib.hid hr
    clear hr h e1 e2 e3
    cases bad
    all_goals
      go_enter Try.func52, Try.ntmps52
      go_wp2_with (first | (go_at_call 78; refine HS.out.mono ?_; rintro e w1 hh; unfold RdR at hh; rw [HR.out] at hh; obtain ⟨rfl, rfl⟩ := hh))
      go_ret
      refine ⟨rfl, HH.out.two (Two.set _ D (.inr rfl) _) v ?_ hs HH.out.bytes ?_ (World.cell?_setCell_same _ _ _ q2) ?_, Two.set _ D (.inr rfl) _⟩
      · rw [World.cell?_setCell_other _ _ _ _ (by intro e; simp only [Addr.mk.injEq] at e; exact hRD e.1.symm)]; exact hv
      · simp; exact HH.out.fzR
      · simp; exact q3
  | some p =>
    have e1 : rdN l = p.1 := by unfold rdN; rw [hr]
    have e2 : rdL l = p.2 := by unfold rdL; rw [hr]
    have e3 : rdB l = false := by unfold rdB; rw [hr]; rfl
    have hbp : ∀ x ∈ p.2, 0 ≤ x ∧ x < 256 := by rw [← e2]; exact rdL_bytes h.bytes
    rw [e1, e2, e3]
    have HR := Lib.hid hr
    have HBP := Lib.hid hbp
    clear hr h e1 e2 e3 hbp
    cases bad
    all_goals
      go_enter Try.func52, Try.ntmps52
      go_wp2_with (first | (go_at_call 78; refine HS.out.mono ?_; rintro e w1 hh; unfold RdR at hh; rw [HR.out] at hh; obtain ⟨v', rfl, rfl, hs'⟩ := hh))
      go_ret
      have t1 := Two.set (R := R) (D := D) w R (.inl rfl) v'
      have t2 : ∀ u, Two R D w ((w.setCell ⟨R, 0, none⟩ v').setCell ⟨D, 0, none⟩ u) := fun u => t1.trans (Two.set _ D (.inr rfl) u)
      have c1 : ∀ u, ((w.setCell ⟨R, 0, none⟩ v').setCell ⟨D, 0, none⟩ u).cell? ⟨R, 0, none⟩ = some v' := fun u => by
        rw [World.cell?_setCell_other _ _ _ _ (by intro e; simp only [Addr.mk.injEq] at e; exact hRD e.1.symm), World.cell?_setCell_same _ _ _ hv]
      have c0 : (w.setCell ⟨R, 0, none⟩ v').cell? ⟨D, 0, none⟩ = w.cell? ⟨D, 0, none⟩ := World.cell?_setCell_other _ _ _ _ (by intro e; simp only [Addr.mk.injEq] at e; first | exact hRD e.1 | exact hRD e.1.symm)
      have c2 : ∀ u, ((w.setCell ⟨R, 0, none⟩ v').setCell ⟨D, 0, none⟩ u).cell? ⟨D, 0, none⟩ = some u := fun u => World.cell?_setCell_same _ _ _ (c0.trans q2)
      exact ⟨rfl, HH.out.two (t2 _) v' (c1 _) hs' HBP.out (by simp; exact HH.out.fzR) (c2 _) (by simp; exact q3), t2 _⟩
end Go.Proofs.Ytipfcfaigbeakaa

namespace Go.Proofs.Ytipfcfaigbeakaa
open Go.RowKit
set_option maxRecDepth 100000

theorem infoInt8 : (Try.prog.info? 3).map (fun i => (i.zero, i.size, i.bytes)) = some (some (.int .i64 0), 1, 8) := by kernel_rfl

theorem Two.below {R D : Nat} {w w1 w2 : World} (h : Two R D w w1) (hx : Below w.heap.size w1 w2) : Two R D w w2 :=
  ⟨hx.os.trans h.os, hx.tape.trans h.tape, hx.output.trans h.output, Nat.le_trans h.size hx.size, fun k hk h1 h2 => (Below.block hx k hk).trans (h.block k hk h1 h2)⟩
theorem Rd.below {W : World} {R N D F : Nat} {l : List Int} {bad : Bool} {w w' : World} (h : Rd W R N D F l bad w) {M : Nat} (hx : Below M w w') (hW : W.heap.size ≤ M) (h1 : R < M) (h2 : N < M) (h3 : D < M) (h4 : F < M) : Rd W R N D F l bad w' :=
  { h with
    ext := Below.trans h.ext (Below.mono hx hW)
    row := by obtain ⟨v, a, b⟩ := h.row; exact ⟨v, (Below.cell (p := ⟨R, 0, none⟩) hx h1).trans a, b⟩
    fzR := (Below.frozen (p := ⟨R, 0, none⟩) hx h1).trans h.fzR
    next := (Below.cell (p := ⟨N, 0, none⟩) hx h2).trans h.next
    bad := (Below.cell (p := ⟨D, 0, none⟩) hx h3).trans h.bad
    fzD := (Below.frozen (p := ⟨D, 0, none⟩) hx h3).trans h.fzD
    read := (Below.cell (p := ⟨F, 0, none⟩) hx h4).trans h.read }
/-- What a list's call leaves. -/
def ListR (W : World) (R N D F : Nat) (l : List Int) (bad : Bool) (n : Int) (w : World) (e : Ending) (w' : World) : Prop :=
  ∃ v done l' bad', e = .returned v ∧ w'.ownsRow w.heap.size 3 1 v done.length (i64s done) ∧ Rd W R N D F l' bad' w' ∧ Two R D w w' ∧ Lst n.toNat l bad bad' done l' ∧ (bad' = false → n ≤ done.length) ∧ (∀ x ∈ done, I64 x) ∧ l'.length ≤ l.length
set_option maxHeartbeats 2000000 in
theorem list_any {W : World} {R N D F : Nat} {l : List Int} {bad : Bool} {w : World} (n : Int) (hn : I64 n) (h : Rd W R N D F l bad w) (hl : l.length ≤ 4000000) :
    Calls Try.prog 53 #[.int .i64 n, .pointer (some ⟨D, 0, none⟩), .pointer (some ⟨F, 0, none⟩)] w (ListR W R N D F l bad n w) := by
  unfold I64 at hn
  have HH := Lib.hid h
  clear h
  go_enter Try.func53, Try.ntmps53
  go_wp2
  go_loopw [5, 6] (fun b i wr => ∃ (done l' : List Int) (bad' : Bool), i = .int .i64 done.length ∧ wr.ownsRow w.heap.size 3 1 b done.length (i64s done) ∧ Rd W R N D F l' bad' wr ∧ Two R D w wr ∧ Hid (Lst n.toNat l bad bad' done l') ∧ done.length ≤ l.length + 1 ∧ ((done.length : Int) ≤ n ∨ done = []) ∧ Hid (∀ x ∈ done, I64 x) ∧ l'.length ≤ l.length) (fun _ i _ => n.toNat - (intOf i).toNat)
  case atStart => exact ⟨[], l, bad, rfl, own_nil _ _ _ _, HH.out, Two.refl _ _ _, Lib.hid (Lst.start bad), Nat.zero_le _, .inr rfl, Lib.hid (fun x hx => by cases hx), Nat.le_refl _⟩
  case round =>
    obtain ⟨done, l', bad', rfl, hown, hrd, htw, HL, hdl, hdn, HI, hll⟩ := hrel
    have q1 := hrd.bad
    have q2 := hrd.read
    have hsz := htw.size
    have hRb := World.block_lt_of_cell? w _ HH.out.row.choose_spec.1
    have hDb := World.block_lt_of_cell? w _ HH.out.bad
    by_cases hend : n ≤ (done.length : Int) ∨ bad' = true
    · have HF : Hid (bad' = false → n ≤ done.length) := Lib.hid (fun e => by rcases hend with h | h; exact h; rw [h] at e; cases e)
      rcases hend with hend | rfl
      · have hd : decide ((done.length : Int) < n) = false := decide_eq_false (by omega)
        go_wp2
        all_goals first | omega | (go_ret; exact ⟨_, done, l', bad', rfl, hown, hrd, htw, HL.out, HF.out, HI.out, hll⟩)
      · go_wp2
        all_goals (go_ret; exact ⟨_, done, l', true, rfl, hown, hrd, htw, HL.out, HF.out, HI.out, hll⟩)
    · have hlt : (done.length : Int) < n := by omega
      obtain rfl : bad' = false := by cases bad' <;> simp_all
      clear hend
      go_wp2_with (first
        | (go_at_call 52; refine (read_any hrd).mono ?_; rintro e w1 ⟨rfl, hrd1, htw1⟩; have hown1 := htw1.row' hown (by omega) (by omega); have hsz1 := htw1.size)
        | (at_builtin; go_must (refine wpList_append_lit rfl _ _ 22 3 rfl (.int .i64 0) 1 8 Try.underlying22 infoInt8 rfl (by decide) w.heap.size _ done.length _ rfl hown1 1 1 _ #[.int .i64 (rdN l')] rfl rfl rfl (by simp [Value.oneCell']) (by unfold maxLen; omega) (by omega) (by omega) ?_; intro v2 w2 hown2 hg2 hbw2)))
      go_roundw
      case rel =>
        have h4 := (HL.out.1 rfl).2.2.2
        have hrd2 : Rd W R N D F (rdL l') (rdB l') w2 := by
          have h5 := hrd1.below (M := w.heap.size) hbw2 (by have := HH.out.ext.size; exact this) hRb (World.block_lt_of_cell? w _ HH.out.next) hDb (World.block_lt_of_cell? w _ HH.out.read)
          rw [Bool.false_or] at h5; exact h5
        have htw2 : Two R D w w2 := (htw.trans htw1).below hbw2
        refine ⟨done ++ [rdN l'], rdL l', rdB l', by simp, by simpa using hown2, hrd2, htw2, Lib.hid (HL.out.step (by omega)), by simp; omega, .inl (by simp; omega), Lib.hid (fun x hx => ?_), by have := rdL_le l'; omega⟩
        rcases List.mem_append.1 hx with h | h
        · exact HI.out x h
        · rw [List.mem_singleton.1 h]; exact rdN_I64 l'
      case measure => simp [intOf]; omega
end Go.Proofs.Ytipfcfaigbeakaa

namespace Go.Proofs.Ytipfcfaigbeakaa
open Go.RowKit
set_option maxRecDepth 100000

/-- A block of one program, all of whose cells may be stored to. -/
structure BoxV (C : Nat) (vs : List Value) (w : World) : Prop where
  cells : ∀ j u, vs[j]? = some u → w.cell? ⟨C, j, none⟩ = some u
  fz : ∀ j, w.frozen? ⟨C, j, none⟩ = false
  lt : C < w.heap.size
theorem BoxV.two {C R D : Nat} {vs : List Value} {w w' : World} (h : BoxV C vs w) (ht : Two R D w w') (hR : C ≠ R) (hD : C ≠ D) : BoxV C vs w' :=
  ⟨fun j u hu => ht.cell hR hD (h.cells j u hu), fun j => by rw [ht.frozen h.lt hR hD]; exact h.fz j, Nat.lt_of_lt_of_le h.lt ht.size⟩
theorem BoxV.ext {C : Nat} {vs : List Value} {w w' : World} (h : BoxV C vs w) (hx : Ext w w') : BoxV C vs w' :=
  ⟨fun j u hu => hx.cell (h.cells j u hu), fun j => by rw [hx.frozens C j h.lt]; exact h.fz j, Nat.lt_of_lt_of_le h.lt hx.size⟩
theorem BoxV.set {C : Nat} {vs : List Value} {w : World} (h : BoxV C vs w) (j : Nat) (u : Value) (hj : j < vs.length) : BoxV C (vs.set j u) (w.setCell ⟨C, j, none⟩ u) := by
  refine ⟨fun k x hx => ?_, fun k => by simp; exact h.fz k, by simp; exact h.lt⟩
  by_cases hk : j = k
  · subst hk
    rw [List.getElem?_set_self hj] at hx
    rw [← Option.some.inj hx]
    exact World.cell?_setCell_same _ _ _ (h.cells j _ (List.getElem?_eq_getElem hj))
  · rw [List.getElem?_set_ne hk] at hx
    rw [World.cell?_setCell_other _ _ _ _ (by intro e; simp only [Addr.mk.injEq] at e; omega)]
    exact h.cells k x hx
theorem BoxV.put {C : Nat} {vs : List Value} {w : World} (h : BoxV C vs w) (j : Nat) (u : Value) : BoxV C (vs.set j u) (w.setCell ⟨C, j, none⟩ u) := by
  by_cases hj : j < vs.length
  · exact h.set j u hj
  · rw [List.set_eq_of_length_le (by omega)]
    refine ⟨fun k x hx => ?_, fun k => by simp; exact h.fz k, by simp; exact h.lt⟩
    have hk := (List.getElem?_eq_some_iff.1 hx).1
    rw [World.cell?_setCell_other _ _ _ _ (by intro e; simp only [Addr.mk.injEq] at e; omega)]
    exact h.cells k x hx
theorem BoxV.drew {C : Nat} {vs : List Value} {w : World} (h : BoxV C vs w) : BoxV C vs w.drew := h.ext (Ext.refl w).drew
theorem BoxV.drewN {C : Nat} {vs : List Value} {w : World} (h : BoxV C vs w) (n : Nat) : BoxV C vs (w.drewN n) := h.ext ((Ext.refl w).drewN n)
theorem BoxV.cast {C : Nat} {vs vs' : List Value} {w : World} (h : BoxV C vs w) (e : vs = vs') : BoxV C vs' w := e ▸ h
theorem drew_block {w : World} {X : Nat} {o : Obj} (h : w.heap[X]? = some o) : w.drew.heap[X]? = some o := h
theorem drewN_block {w : World} {X : Nat} {o : Obj} (h : w.heap[X]? = some o) (n : Nat) : (w.drewN n).heap[X]? = some o := h
/-- A block that keeps its cells. -/
theorem two_block {R D : Nat} {w w' : World} (h : Two R D w w') {X : Nat} {o : Obj} (hR : X ≠ R) (hD : X ≠ D) (hX : w.heap[X]? = some o) : w'.heap[X]? = some o := by
  rw [h.block X (Array.getElem?_eq_some_iff.1 hX).1 hR hD]; exact hX
theorem ext_block {w w' : World} (h : Ext w w') {X : Nat} {o : Obj} (hX : w.heap[X]? = some o) : w'.heap[X]? = some o := by
  rw [Below.block h X (Array.getElem?_eq_some_iff.1 hX).1]; exact hX
theorem set_block {w : World} {X C : Nat} {o : Obj} (hC : X ≠ C) (j : Nat) (u : Value) (hX : w.heap[X]? = some o) : (w.setCell ⟨C, j, none⟩ u).heap[X]? = some o := by
  rw [Below.heap_setCell _ _ _ _ hC]; exact hX
/-- A store elsewhere. -/
theorem Rd.set {W : World} {R N D F : Nat} {l : List Int} {bad : Bool} {w : World} (h : Rd W R N D F l bad w) {C : Nat} (hW : W.heap.size ≤ C) (h1 : C ≠ R) (h2 : C ≠ N) (h3 : C ≠ D) (h4 : C ≠ F) (j : Nat) (u : Value) : Rd W R N D F l bad (w.setCell ⟨C, j, none⟩ u) :=
  have e : ∀ b, b ≠ C → ∀ o, (w.setCell ⟨C, j, none⟩ u).cell? ⟨b, o, none⟩ = w.cell? ⟨b, o, none⟩ := fun b hb o => World.cell?_setCell_other _ _ _ _ (by intro e; simp only [Addr.mk.injEq] at e; exact hb (by omega))
  { h with
    ext := h.ext.setCell hW u
    row := by obtain ⟨v, a, b⟩ := h.row; exact ⟨v, (e R (Ne.symm h1) 0).trans a, b⟩
    fzR := by simp; exact h.fzR
    next := (e N (Ne.symm h2) 0).trans h.next
    bad := (e D (Ne.symm h3) 0).trans h.bad
    fzD := by simp; exact h.fzD
    read := (e F (Ne.symm h4) 0).trans h.read }
theorem Rd.drew {W : World} {R N D F : Nat} {l : List Int} {bad : Bool} {w : World} (h : Rd W R N D F l bad w) : Rd W R N D F l bad w.drew := h.ext' (Ext.refl w).drew
theorem Rd.drewN {W : World} {R N D F : Nat} {l : List Int} {bad : Bool} {w : World} (h : Rd W R N D F l bad w) (n : Nat) : Rd W R N D F l bad (w.drewN n) := h.ext' ((Ext.refl w).drewN n)
theorem Rd.putC {W : World} {X R N D F C : Nat} {l : List Int} {bad : Bool} {w : World} (hne : R < N ∧ N < D ∧ D < F ∧ F < C ∧ X < R ∧ W.heap.size ≤ X) (h : Rd W R N D F l bad w) (j : Nat) (u : Value) : Rd W R N D F l bad (w.setCell ⟨C, j, none⟩ u) :=
  h.set (by omega) (by omega) (by omega) (by omega) (by omega) j u
theorem reader_any (a : Option Addr) (n cap : Nat) (w : World) : Calls Try.prog 51 #[.slice a n cap] w fun e w' => e = .returned (.func (.func 78) #[] #[.pointer (some ⟨w.heap.size, 0, none⟩)]) ∧ w' = w.alloc (.cells #[.slice a n cap] 38) := by
  have hmf : ∀ (fn : Fn) (first cap : Array Value) (w : World), (Instr.makeFunc fn first cap).run Try.prog w = .ok (.func fn first cap) w := fun _ _ _ _ => rfl
  go_enter Try.func51, Try.ntmps51
  go_wp2
  go_ret
  exact ⟨rfl, rfl⟩
theorem hasPrefix_any (l m : List Int) (v1 v2 : Value) (w : World) (hl : ∀ x ∈ l, 0 ≤ x ∧ x < 256) (hm : ∀ x ∈ m, 0 ≤ x ∧ x < 256) (h1 : SlC w v1 l.length (u8s l)) (h2 : SlC w v2 m.length (u8s m)) :
    Calls Try.prog 50 #[v1, v2] w fun e w' => e = .returned (.bool (decide (l.take m.length = m))) ∧ w = w' := by
  obtain ⟨a1, c1, rfl, n1, hm1, k1⟩ := id h1
  obtain ⟨a2, c2, rfl, n2, m2, k2⟩ := id h2
  have HK := Lib.hid k1
  have hw1 := nat64 n1 hm1
  have hw2 := nat64 n2 m2
  have H2 := Lib.hid h2
  clear k1 k2 m2 h1 h2
  obtain ⟨x, hx⟩ : ∃ x, x = decide (l.take m.length = m) := ⟨_, rfl⟩
  rw [← hx]
  have HX := Lib.hid hx
  clear hx
  by_cases hle : m.length ≤ l.length
  · have HT : Hid (SlC w (.slice a1 m.length c1) (l.take m.length).length (u8s (l.take m.length))) := Lib.hid (by
      have e : (l.take m.length).length = m.length := by rw [List.length_take]; omega
      rw [e]
      refine ⟨a1, c1, rfl, by omega, hm1, fun j u hu => HK.out j u ?_⟩
      rw [List.getElem?_map, List.getElem?_take] at hu
      split at hu
      · rw [List.getElem?_map]; exact hu
      · cases hu)
    have HB : Hid (∀ x ∈ l.take m.length, 0 ≤ x ∧ x < 256) := Lib.hid (fun x hx => hl x (List.mem_of_mem_take hx))
    clear hm1
    go_enter Try.func50, Try.ntmps50
    go_wp2_with (go_at_call 54; refine (bytesEqual_any (l.take m.length) m _ _ w HB.out hm HT.out H2.out).mono ?_; rintro e w1 ⟨rfl, rfl⟩)
    go_ret
    exact ⟨by rw [HX.out]; rfl, rfl⟩
  · have HF : Hid (x = false) := Lib.hid (by rw [HX.out, decide_eq_false_iff_not]; intro e; have := congrArg List.length e; rw [List.length_take] at this; omega)
    clear hm1
    go_enter Try.func50, Try.ntmps50
    go_wp2
    go_ret
    exact ⟨by rw [HF.out]; rfl, rfl⟩
theorem row_below {B M : Nat} {w w' : World} {e : TypeId} {size : Nat} {v : Value} {n : Nat} {xs : List Value} (h : w.ownsRow B e size v n xs) (hM : ∀ g, v.ownBlock = some g → g < M) (hx : Below M w w') : w'.ownsRow B e size v n xs := by
  refine ⟨h.1, h.2.imp id ?_⟩
  rintro ⟨g, cap, cur, rfl, h1, h2, r⟩
  exact ⟨g, cap, cur, rfl, h1, by rw [Below.block hx g (hM g rfl)]; exact h2, r⟩
/-- The two rows of numbers that are read already: they lie below block M. -/
structure Two2 (B M : Nat) (kv : Value) (ks : List Int) (iv : Value) (is : List Int) (w : World) : Prop where
  k : w.ownsRow B 3 1 kv ks.length (i64s ks)
  i : w.ownsRow B 3 1 iv is.length (i64s is)
  kM : ∀ g, kv.ownBlock = some g → g < M
  iM : ∀ g, iv.ownBlock = some g → g < M
theorem Two2.two {B M : Nat} {kv : Value} {ks : List Int} {iv : Value} {is : List Int} {w w' : World} (h : Two2 B M kv ks iv is w) {R D : Nat} (ht : Two R D w w') (hR : R < B) (hD : D < B) : Two2 B M kv ks iv is w' := ⟨ht.row' h.k hR hD, ht.row' h.i hR hD, h.kM, h.iM⟩
theorem Two2.set {B M : Nat} {kv : Value} {ks : List Int} {iv : Value} {is : List Int} {w : World} (h : Two2 B M kv ks iv is w) {C : Nat} (hC : C < B) (j : Nat) (u : Value) : Two2 B M kv ks iv is (w.setCell ⟨C, j, none⟩ u) := ⟨ownsRow_setCell_below h.k hC u, ownsRow_setCell_below h.i hC u, h.kM, h.iM⟩
theorem Two2.ext {B M : Nat} {kv : Value} {ks : List Int} {iv : Value} {is : List Int} {w w' : World} (h : Two2 B M kv ks iv is w) (hx : Ext w w') : Two2 B M kv ks iv is w' := ⟨ownsRow_ext h.k hx, ownsRow_ext h.i hx, h.kM, h.iM⟩
theorem Two2.below {B M : Nat} {kv : Value} {ks : List Int} {iv : Value} {is : List Int} {w w' : World} (h : Two2 B M kv ks iv is w) (hx : Below M w w') : Two2 B M kv ks iv is w' := ⟨row_below h.k h.kM hx, row_below h.i h.iM hx, h.kM, h.iM⟩
theorem BoxV.below {C M : Nat} {vs : List Value} {w w' : World} (h : BoxV C vs w) (hx : Below M w w') (hC : C < M) : BoxV C vs w' :=
  ⟨fun j u hu => (Below.cell (p := ⟨C, j, none⟩) hx hC).trans (h.cells j u hu), fun j => (Below.frozen (p := ⟨C, j, none⟩) hx hC).trans (h.fz j), Nat.lt_of_lt_of_le h.lt hx.size⟩
theorem results_cell_tmp {P : Program} {fn : Func} {p u : Tmp} {ty : TypeId} (h : fn.results = #[.cell p ty, .tmp u]) (tmps : Array Value) (w : World) (g : Nat) (t : TypeId) (cs : Array Value) (fr : Nat × Nat) (d : TypeDesc)
    (hp : tmps.getD p undef = .pointer (some ⟨g, 0, none⟩)) (hg : w.heap[g]? = some (.cells cs t fr))
    (hu : P.underlying ty = some d) (hd : (match d with | .struct _ | .array _ _ => true | _ => false) = true) (hi : (P.info? ty).map (·.size) = some cs.size) :
    (results fn tmps).run P w = .ok (.tuple #[.agg cs, tmps.getD u undef]) w := by
  have hp' : tmps[p]?.getD undef = .pointer (some ⟨g, 0, none⟩) := by simpa using hp
  simp [results, h, hp', asAddr, run_loadVar_row w g t ty cs fr d hg hu hd hi]
theorem ret_row2 {P : Program} {fn : Func} {R : Ending → World → Prop} {a : Act} {w : World} {p u : Tmp} {ty : TypeId} (h : fn.results = #[.cell p ty, .tmp u]) (n : Nat) (t : TypeId) (cs : Array Value) (d : TypeDesc)
    (hp : a.tmps.getD p undef = .pointer (some ⟨n, 0, none⟩)) (hg : w.heap[n]? = some (.cells cs t (0, 0)))
    (hu : P.underlying ty = some d) (hd : (match d with | .struct _ | .array _ _ => true | _ => false) = true) (hi : (P.info? ty).map (·.size) = some cs.size) (hdf : a.defers = [])
    (hR : R (.returned (.tuple #[.agg cs, a.tmps.getD u undef])) w) : bodyPost P fn R .ret a w :=
  bodyPost_ret (results_cell_tmp h _ _ _ _ _ _ _ hp hg hu hd hi) hdf hR
theorem row_setRow {B X : Nat} {w : World} {e : TypeId} {size : Nat} {v : Value} {n : Nat} {xs : List Value} (h : w.ownsRow B e size v n xs) (hX : X < B) (cs : Array Value) : (w.setRow X cs).ownsRow B e size v n xs := by
  refine ⟨h.1, h.2.imp id ?_⟩
  rintro ⟨g, cap, cur, rfl, h1, h2, r⟩
  exact ⟨g, cap, cur, rfl, h1, by rw [setRow_other _ _ _ _ (show g ≠ X by omega)]; exact h2, r⟩
end Go.Proofs.Ytipfcfaigbeakaa

/-
  The walks of the document's own reader of bytes: a number, a list of numbers.
  Conditions: no more bytes than 10000.
-/
import Derived.Test.YtipfcfaigbeakaaMCodeRefN
import Derived.Test.YtipfcfaigbeakaaJRead
namespace Go.Proofs.Ytipfcfaigbeakaa
open Go.RowKit
set_option linter.unusedSimpArgs false
set_option linter.unusedVariables false
set_option maxRecDepth 100000

/-- What one number read off the bytes from a place on tells. -/
structure Nm (l : List Int) (k : Nat) (bad : Bool) (v : Int) (k' : Nat) (bad' : Bool) : Prop where
  le : k ≤ k'
  len : k' ≤ l.length
  v64 : I64 v
  good : rdB (l.drop k) = false → v = rdN (l.drop k) ∧ l.drop k' = rdL (l.drop k) ∧ bad' = bad
  fails : rdB (l.drop k) = true → v = 0 ∧ bad' = true
/-- What the reader's call leaves. -/
def NumR (RB : Nat) (s : Value) (l : List Int) (k : Nat) (bad : Bool) (w : World) (e : Ending) (w' : World) : Prop :=
  ∃ (v : Int) (k' : Nat) (bad' : Bool), e = .returned (.int .i64 v) ∧ BoxV RB [s, .int .i64 (k' : Int), .bool bad'] w' ∧ Two RB RB w w' ∧ Nm l k bad v k' bad'
theorem NumR.mk {RB : Nat} {s : Value} {l : List Int} {k k' : Nat} {bad bad' : Bool} {w w' : World} {e : Ending} {v : Int} (h1 : e = .returned (.int .i64 v)) (h2 : BoxV RB [s, .int .i64 (k' : Int), .bool bad'] w') (h3 : Two RB RB w w') (h4 : Nm l k bad v k' bad') : NumR RB s l k bad w e w' := ⟨v, k', bad', h1, h2, h3, h4⟩
theorem add_step {x : Int} {U I : Nat} (hx : 0 ≤ x) : IntKind.u64.wrap (U + IntKind.u64.wrap (x % 128 * 2 ^ (7 * I))) = (((U + (x % 128).toNat * 2 ^ (7 * I)) % 18446744073709551616 : Nat) : Int) := by
  have e : x % 128 * 2 ^ (7 * I) = (((x % 128).toNat * 2 ^ (7 * I) : Nat) : Int) := by
    rw [Int.natCast_mul, Int.natCast_pow, Int.toNat_of_nonneg (by omega)]; rfl
  rw [e]
  simp only [u64w7]
  omega
theorem Two.setJ {R D : Nat} (w : World) (b j : Nat) (hb : b = R ∨ b = D) (u : Value) : Two R D w (w.setCell ⟨b, j, none⟩ u) :=
  ⟨rfl, rfl, rfl, by simp, fun k _ h1 h2 => Below.heap_setCell _ _ _ _ (by rcases hb with rfl | rfl <;> assumption)⟩
theorem bits_xorU' (x y : Int) : bits .xor .u64 x y = IntKind.u64.wrap ((BitVec.ofInt 64 x ^^^ BitVec.ofInt 64 y).toNat : Int) := rfl
theorem unzig_odd {U : Nat} (hU : U < 18446744073709551616) (h : U % 2 = 1) : wrap64 (bits .xor .u64 IntKind.u64.max ((U : Int) / 2)) = unzig U := by
  have e1 : BitVec.ofInt 64 IntKind.u64.max = BitVec.allOnes 64 := by decide
  rw [bits_xorU', e1, BitVec.allOnes_xor, BitVec.toNat_not, BitVec.toNat_ofInt, u64w7]
  unfold unzig wrap64
  rw [if_neg (by omega)]
  omega
theorem unzig_even {U : Nat} (h : ¬ U % 2 = 1) : (U : Int) / 2 = unzig U := by
  unfold unzig
  rw [if_pos (by omega)]
  omega
theorem Nm.stop {l : List Int} {k I U : Nat} {bad : Bool} {x : Int} (h : rdU (10 - I) I U ((l.drop k).drop I) = rdU 10 0 0 (l.drop k)) (hI : I < 10) (hx : l[k + I]? = some x) (hlt : x < 128) :
    Nm l k bad (unzig ((U + (x % 128).toNat * 2 ^ (7 * I)) % 18446744073709551616)) (k + I + 1) bad := by
  have hr := readV_stop (l := l.drop k) h hI (by rw [List.getElem?_drop]; exact hx) hlt
  have hlen := (List.getElem?_eq_some_iff.1 hx).1
  refine ⟨by omega, by omega, readV_I64 hr, fun _ => ⟨by unfold rdN; rw [hr], by unfold rdL; rw [hr]; simp [Nat.add_assoc], rfl⟩, fun hb => ?_⟩
  unfold rdB at hb
  rw [hr] at hb
  cases hb
theorem Nm.end {l : List Int} {k I U : Nat} {bad : Bool} (h : rdU (10 - I) I U ((l.drop k).drop I) = rdU 10 0 0 (l.drop k)) (hk : k + I ≤ l.length) (he : l.length ≤ k + I ∨ 10 ≤ I) (hI : I ≤ 10) : Nm l k bad 0 (k + I) true := by
  have hr : readV (l.drop k) = none := by
    unfold readV
    rw [← h]
    rcases he with he | he
    · rw [rdU_end _ (by rw [List.drop_drop]; exact List.drop_eq_nil_of_le he)]; rfl
    · obtain rfl : I = 10 := by omega
      rfl
  refine ⟨by omega, hk, by unfold I64; omega, fun hb => ?_, fun _ => ⟨rfl, rfl⟩⟩
  unfold rdB at hb
  rw [hr] at hb
  cases hb
set_option maxHeartbeats 2000000 in
theorem refNum_any (W : World) (RB : Nat) (a : Option Addr) (cap : Nat) (l : List Int) (k : Nat) (bad : Bool) (w : World) (hl : l.length ≤ 10000) (hk : k ≤ l.length) (hv : SlC W (.slice a l.length cap) l.length (u8s l)) (hlb : ∀ x ∈ l, 0 ≤ x ∧ x < 256) (hx : Ext W w)
    (hRB : W.heap.size ≤ RB) (hb : BoxV RB [.slice a l.length cap, .int .i64 (k : Int), .bool bad] w) :
    Calls Try.prog 56 #[.pointer (some ⟨RB, 0, none⟩)] w (NumR RB (.slice a l.length cap) l k bad w) := by
  have HV := Lib.hid hv
  have HL := Lib.hid hlb
  obtain ⟨a', cap', e1, hn1, hn2, -⟩ := id hv
  simp only [Value.slice.injEq] at e1
  obtain ⟨rfl, -, rfl⟩ := e1
  have hwl := nat64 hn1 hn2
  clear hv hlb hn1 hn2
  go_enter Try.func56, Try.ntmps56
  go_wp2
  go_loopw [3, 4] (fun z i wr => ∃ U I : Nat, z = .int .u64 U ∧ i = .int .i64 I ∧ I ≤ 10 ∧ k + I ≤ l.length ∧ BoxV RB [.slice a l.length cap, .int .i64 ((k + I : Nat) : Int), .bool bad] wr ∧ Ext W wr ∧ Two RB RB w wr ∧ Hid (U < 2 ^ (7 * I)) ∧ U < 18446744073709551616 ∧ Hid (rdU (10 - I) I U ((l.drop k).drop I) = rdU 10 0 0 (l.drop k))) (fun _ i _ => 10 - (intOf i).toNat)
  case atStart => exact ⟨0, 0, rfl, rfl, by omega, by omega, hb, hx, Two.refl _ _ _, Lib.hid (by decide), by decide, Lib.hid rfl⟩
  case round =>
    obtain ⟨U, I, rfl, rfl, hI, hIl, hbx, hxr, ht, HU, hU, HR⟩ := hrel
    have b0 := hbx.cells 0 _ rfl
    have b1 := hbx.cells 1 _ rfl
    have b2 := hbx.cells 2 _ rfl
    have bz := hbx.fz
    have bl := hbx.lt
    by_cases h10 : I < 10
    · by_cases hIl2 : k + I < l.length
      · obtain ⟨x, hx0⟩ : ∃ x, l[k + I]? = some x := ⟨_, List.getElem?_eq_getElem hIl2⟩
        obtain ⟨a', cap', e1, -, -, hcc⟩ := id (HV.out.ext hxr)
        simp only [Value.slice.injEq] at e1
        obtain ⟨rfl, -, rfl⟩ := e1
        obtain ⟨b, o, rfl, hcell⟩ := hcc (k + I) (.int .u8 x) (by simp [hx0])
        have hxb := HL.out x (List.mem_of_getElem? hx0)
        have hor := add_step (U := U) (I := I) hxb.1
        have hd : ¬ ((l.length : Int) ≤ ((k + I : Nat) : Int)) := by omega
        have HX := Lib.hid hx0
        clear hx0 hcc
        have hst : ∀ n, BoxV RB [.slice (some ⟨b, o, none⟩) l.length cap, .int .i64 ((k + I + 1 : Nat) : Int), .bool bad] ((wr.drewN n).setCell ⟨RB, 1, none⟩ (.int .i64 ((k : Int) + I + 1))) := fun n => BoxV.cast ((hbx.drewN n).put 1 (.int .i64 ((k : Int) + I + 1))) (by simp)
        have htt : ∀ n, Two RB RB w ((wr.drewN n).setCell ⟨RB, 1, none⟩ (.int .i64 ((k : Int) + I + 1))) := fun n => (ht.trans (Two.of_ext ((Ext.refl wr).drewN n))).trans (Two.setJ _ _ _ (.inl rfl) _)
        have HST := Lib.hid hst
        have HTT := Lib.hid htt
        clear hst htt
        by_cases hlt : x < 128
        · have HN : Hid (Nm l k bad (unzig ((U + (x % 128).toNat * 2 ^ (7 * I)) % 18446744073709551616)) (k + I + 1) bad) := Lib.hid (Nm.stop HR.out h10 HX.out hlt)
          obtain ⟨U', hU'⟩ : ∃ U', U' = (U + (x % 128).toNat * 2 ^ (7 * I)) % 18446744073709551616 := ⟨_, rfl⟩
          have hUl : U' < 18446744073709551616 := by rw [hU']; exact Nat.mod_lt _ (by decide)
          rw [← hU'] at HN hor
          clear hU'
          by_cases hpar : U' % 2 = 1
          · have HZ := Lib.hid (unzig_odd hUl hpar)
            have hpb : (((U' : Int) % 2) == 1) = true := by rw [beq_iff_eq]; omega
            go_wp2
            (refine region_drew (by kernel_rfl) (by kernel_rfl) ?_; (repeat (go_big_quiet_step (fail))); refine wpQuiet_nil ?_; rintro _ ⟨nq, rfl⟩)
            go_wp2
            (refine region_drew (by kernel_rfl) (by kernel_rfl) ?_; (repeat (go_big_quiet_step (fail))); refine wpQuiet_nil ?_; rintro _ ⟨nq, rfl⟩)
            go_wp2
            go_ret
            exact NumR.mk (congrArg (fun z => Ending.returned (.int .i64 z)) HZ.out) (HST.out _) (HTT.out _) HN.out
          · have HZ := Lib.hid (unzig_even hpar)
            have hpb : (((U' : Int) % 2) == 1) = false := by rw [beq_eq_false_iff_ne]; omega
            go_wp2
            (refine region_drew (by kernel_rfl) (by kernel_rfl) ?_; (repeat (go_big_quiet_step (fail))); refine wpQuiet_nil ?_; rintro _ ⟨nq, rfl⟩)
            go_wp2
            (refine region_drew (by kernel_rfl) (by kernel_rfl) ?_; (repeat (go_big_quiet_step (fail))); refine wpQuiet_nil ?_; rintro _ ⟨nq, rfl⟩)
            go_wp2
            go_ret
            exact NumR.mk (congrArg (fun z => Ending.returned (.int .i64 z)) HZ.out) (HST.out _) (HTT.out _) HN.out
        · have HO : Hid (rdU (10 - (I + 1)) (I + 1) ((U + (x % 128).toNat * 2 ^ (7 * I)) % 18446744073709551616) ((l.drop k).drop (I + 1)) = rdU 10 0 0 (l.drop k)) := Lib.hid (rdU_on HR.out h10 (by rw [List.getElem?_drop]; exact HX.out) hlt)
          have HL2 : Hid ((U + (x % 128).toNat * 2 ^ (7 * I)) % 18446744073709551616 < 2 ^ (7 * (I + 1))) := Lib.hid (up_lt HU.out (by omega))
          obtain ⟨U', hU'⟩ : ∃ U', U' = (U + (x % 128).toNat * 2 ^ (7 * I)) % 18446744073709551616 := ⟨_, rfl⟩
          have hUl : U' < 18446744073709551616 := by rw [hU']; exact Nat.mod_lt _ (by decide)
          rw [← hU'] at HO HL2 hor
          clear hU'
          go_wp2
          (refine region_drew (by kernel_rfl) (by kernel_rfl) ?_; (repeat (go_big_quiet_step (fail))); refine wpQuiet_nil ?_; rintro _ ⟨nq, rfl⟩)
          go_wp2
          (refine region_drew (by kernel_rfl) (by kernel_rfl) ?_; (repeat (go_big_quiet_step (fail))); refine wpQuiet_nil ?_; rintro _ ⟨nq, rfl⟩)
          go_wp2
          go_roundw
          case rel => exact ⟨U', I + 1, rfl, by go_num, by omega, by omega, HST.out _, (hxr.drewN _).setCell hRB _, HTT.out _, HL2, hUl, HO⟩
          case measure => simp [intOf]; omega
      · have HN : Hid (Nm l k bad 0 (k + I) true) := Lib.hid (Nm.end HR.out hIl (.inl (by omega)) hI)
        have hd : (l.length : Int) ≤ ((k + I : Nat) : Int) := by omega
        go_wp2
        (refine region_drew (by kernel_rfl) (by kernel_rfl) ?_; (repeat (go_big_quiet_step (fail))); refine wpQuiet_nil ?_; rintro _ ⟨nq, rfl⟩)
        go_wp2
        go_ret
        exact NumR.mk rfl (BoxV.cast ((hbx.drewN _).put 2 (.bool true)) rfl) ((ht.trans (Two.of_ext ((Ext.refl wr).drewN _))).trans (Two.setJ _ _ _ (.inl rfl) _)) HN.out
    · have HN : Hid (Nm l k bad 0 (k + I) true) := Lib.hid (Nm.end HR.out hIl (.inr (by omega)) hI)
      go_wp2
      go_ret
      exact NumR.mk rfl (BoxV.cast (hbx.put 2 (.bool true)) rfl) (ht.trans (Two.setJ _ _ _ (.inl rfl) _)) HN.out
theorem Lst.bad_any {n : Nat} {l l1 l2 d1 d2 : List Int} {b0 : Bool} (h : Lst n l b0 true d1 l1) : Lst n l b0 true d2 l2 := ⟨fun e => (by cases e), h.2⟩
/-- The next number of a list. -/
theorem Lst.num {n : Nat} {l : List Int} {b0 bad2 : Bool} {done : List Int} {k0 k1 k2 : Nat} {v : Int} (h : Lst n (l.drop k0) b0 false done (l.drop k1)) (hn : done.length < n) (hm : Nm l k1 false v k2 bad2) : Lst n (l.drop k0) b0 bad2 (done ++ [v]) (l.drop k2) := by
  have hs := h.step hn
  cases hr : rdB (l.drop k1) with
  | false =>
    obtain ⟨rfl, e, rfl⟩ := hm.good hr
    rw [hr] at hs
    rw [e]; exact hs
  | true =>
    obtain ⟨rfl, rfl⟩ := hm.fails hr
    rw [hr] at hs
    exact hs.bad_any
/-- What a list read off the bytes tells. -/
structure Nl (l : List Int) (k : Nat) (bad : Bool) (n : Int) (ks : List Int) (k' : Nat) (bad' : Bool) : Prop where
  len : k' ≤ l.length
  v64 : ∀ x ∈ ks, I64 x
  lst : Lst n.toNat (l.drop k) bad bad' ks (l.drop k')
  all : bad' = false → n ≤ ks.length
  kn : ks.length ≤ 10001
def ListQ (B RB : Nat) (s : Value) (l : List Int) (k : Nat) (bad : Bool) (n : Int) (w : World) (e : Ending) (w' : World) : Prop :=
  ∃ (v : Value) (ks : List Int) (k' : Nat) (bad' : Bool), e = .returned v ∧ w'.ownsRow B 3 1 v ks.length (i64s ks) ∧ BoxV RB [s, .int .i64 (k' : Int), .bool bad'] w' ∧ Two RB RB w w' ∧ Nl l k bad n ks k' bad'
set_option maxHeartbeats 2000000 in
theorem refList_any (W : World) (RB : Nat) (a : Option Addr) (cap : Nat) (l : List Int) (k : Nat) (bad : Bool) (n : Int) (w : World) (hn : I64 n) (hl : l.length ≤ 10000) (hk : k ≤ l.length) (hv : SlC W (.slice a l.length cap) l.length (u8s l)) (hlb : ∀ x ∈ l, 0 ≤ x ∧ x < 256) (hx : Ext W w)
    (hRB : W.heap.size ≤ RB) (hb : BoxV RB [.slice a l.length cap, .int .i64 (k : Int), .bool bad] w) :
    Calls Try.prog 55 #[.pointer (some ⟨RB, 0, none⟩), .int .i64 n] w (ListQ w.heap.size RB (.slice a l.length cap) l k bad n w) := by
  unfold I64 at hn
  have HNUM : Hid (∀ k bad w, k ≤ l.length → Ext W w → BoxV RB [.slice a l.length cap, .int .i64 (k : Int), .bool bad] w → Calls Try.prog 56 #[.pointer (some ⟨RB, 0, none⟩)] w (NumR RB (.slice a l.length cap) l k bad w)) := Lib.hid fun k bad w hk hx hb => refNum_any W RB a cap l k bad w hl hk hv hlb hx hRB hb
  have hRl := hb.lt
  have hWw := hx.size
  obtain ⟨Q, hQ⟩ : ∃ Q, Q = ListQ w.heap.size RB (.slice a l.length cap) l k bad n w := ⟨_, rfl⟩
  rw [← hQ]
  have HQ := Lib.hid hQ
  clear hQ hv hlb
  go_enter Try.func55, Try.ntmps55
  go_wp2
  go_loopw [5, 6] (fun v i wr => ∃ (ks : List Int) (k1 : Nat) (bad1 : Bool), i = .int .i64 (ks.length : Int) ∧ wr.ownsRow w.heap.size 3 1 v ks.length (i64s ks) ∧ BoxV RB [.slice a l.length cap, .int .i64 (k1 : Int), .bool bad1] wr ∧ Ext W wr ∧ Two RB RB w wr ∧ k1 ≤ l.length ∧ Hid (Lst n.toNat (l.drop k) bad bad1 ks (l.drop k1)) ∧ Hid (∀ x ∈ ks, I64 x) ∧ ks.length ≤ 10001) (fun _ i _ => n.toNat - (intOf i).toNat)
  case atStart => exact ⟨[], k, bad, rfl, own_nil _ _ _ _, hb, hx, Two.refl _ _ _, hk, Lib.hid (Lst.start bad), Lib.hid (by simp), by simp⟩
  case round =>
    clear hb hx
    obtain ⟨ks, k1, bad1, rfl, hown, hbx, hxr, ht, hk1, HLS, HKS, hkl⟩ := hrel
    have b2 := hbx.cells 2 _ rfl
    have bl := hbx.lt
    by_cases hend : n ≤ (ks.length : Int) ∨ bad1 = true
    · have HA : Hid (bad1 = false → n ≤ ks.length) := Lib.hid fun e => by rcases hend with h | h; exact h; rw [h] at e; cases e
      clear hend
      by_cases hlt : (ks.length : Int) < n
      · have hbt : bad1 = true := by cases bad1; have := HA.out rfl; omega; rfl
        subst hbt
        go_wp2
        all_goals first | omega | (rw [HQ.out]; exact ⟨_, ks, k1, true, rfl, hown, hbx, ht, ⟨hk1, HKS.out, HLS.out, HA.out, hkl⟩⟩)
      · have hd : decide ((ks.length : Int) < n) = false := decide_eq_false hlt
        go_wp2
        all_goals first | omega | (rw [HQ.out]; exact ⟨_, ks, k1, bad1, rfl, hown, hbx, ht, ⟨hk1, HKS.out, HLS.out, HA.out, hkl⟩⟩)
    · have hlt : (ks.length : Int) < n := by omega
      obtain rfl : bad1 = false := by cases bad1 <;> simp_all
      clear hend
      have hkl2 : ks.length ≤ 10000 := by have := (HLS.out.1 rfl).2.2.2; rw [List.length_drop, List.length_drop] at this; omega
      have hsz := ht.size
      go_wp2_with (first
        | (go_at_call 56; refine (HNUM.out k1 false _ hk1 hxr hbx).mono ?_; rintro e w6 ⟨v6, k2, bad2, rfl, hb6, ht6, hN6⟩; have hown6 := ht6.row' hown hRl hRl)
        | (at_builtin; go_must (refine wpList_append_lit rfl _ _ 22 3 rfl (.int .i64 0) 1 8 Try.underlying22 infoInt rfl (by decide) w.heap.size _ ks.length _ rfl hown6 1 1 _ #[.int .i64 v6] rfl rfl rfl (by simp [Value.oneCell']) (by unfold maxLen; omega) (by omega) (Nat.le_trans hsz ht6.size) ?_; intro v7 w7 hown7 hg7 hb7)))
      go_roundw
      case rel => exact ⟨ks ++ [v6], k2, bad2, by simp, by simpa using hown7, hb6.below hb7 hRl, Below.trans (ht6.ext hxr hRB hRB) (Below.mono hb7 hWw), (ht.trans ht6).below hb7, hN6.len, Lib.hid (Lst.num HLS.out (by omega) hN6), Lib.hid (fun x hx => (List.mem_append.1 hx).elim (HKS.out x) (fun h => by rw [List.mem_singleton.1 h]; exact hN6.v64)), by simp; omega⟩
      case measure => simp [intOf]; omega
end Go.Proofs.Ytipfcfaigbeakaa

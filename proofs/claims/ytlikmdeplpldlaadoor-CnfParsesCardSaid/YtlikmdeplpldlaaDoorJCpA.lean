/-
  The shelf's contract on the rune at the head of bytes, laid at this program.
  Conditions: those that the contract names.
  The rune at the head of bytes whose first is none of ASCII.
  No condition.
  bytes.IndexAny at the bytes blank and newline, on any bytes: at most eight.
  Conditions: the library's two tables of runes are laid; its greatest length is a number.
  bytes.IndexAny at the bytes blank and newline, on two to eight bytes of any kind.
  Conditions: the library's two tables of runes are laid; its greatest length is a number.
  bytes.IndexAny at the bytes blank and newline, on any bytes.
  Conditions: the library's two tables of runes are laid; its greatest length is a number.
  The reader's pieces: bytes of any kind as a slice shows them, or nil; TrimLeft and IndexAny on them.
  Conditions: what the library's variables hold.
-/
import Derived.Shelf.Spec.DecodeRune
import Derived.Shelf.Lay
import Derived.Ground.Names7Prog
import Derived.Test.YtlikmdeplpldlaaDoorChecked
import Derived.Lib.DecodeN
import Derived.Shelf.Unicode.DecodeLastEight
import Derived.Lib.IndexEntry
import Derived.Test.YtlikmdeplpldlaaDoorShC
import Derived.Test.YtlikmdeplpldlaaDoorGen
import Derived.Test.YtlikmdeplpldlaaDoorCnfRd
namespace Go.Proofs.YtlikmdeplpldlaaDoor
open Go.Shelf

shelf_lay Lays7.n32 Nm7 32 at Tryd as Tryd.laysDR
end Go.Proofs.YtlikmdeplpldlaaDoor
namespace Go.Proofs.YtlikmdeplpldlaaDoor
open Go.Lib

theorem decodeN_hi (n b0 b1 b2 b3 : Nat) (h : 128 ≤ b0) :
    ((decodeN n b0 b1 b2 b3).1 = 65533 ∧ (decodeN n b0 b1 b2 b3).2 = 1) ∨ (128 ≤ (decodeN n b0 b1 b2 b3).1 ∧ (decodeN n b0 b1 b2 b3).1 ≤ 1114111 ∧ 2 ≤ (decodeN n b0 b1 b2 b3).2 ∧ (decodeN n b0 b1 b2 b3).2 ≤ n ∧ (decodeN n b0 b1 b2 b3).2 ≤ 4 ∧ 128 ≤ b1 ∧ (3 ≤ (decodeN n b0 b1 b2 b3).2 → 128 ≤ b2) ∧ (4 ≤ (decodeN n b0 b1 b2 b3).2 → 128 ≤ b3)) := by
  unfold decodeN
  rw [if_neg (by omega)]
  repeat' split
  all_goals first
    | (left; exact ⟨rfl, rfl⟩)
    | (right; rename_i h1 h2; dsimp only; refine ⟨?_, ?_, ?_, ?_, ?_, ?_, ?_, ?_⟩ <;> omega)
theorem decodeN_wide (n b0 b1 b2 b3 : Nat) (h : 128 ≤ b0) (h2 : 2 ≤ (decodeN n b0 b1 b2 b3).2) :
    ((decodeN n b0 b1 b2 b3).2 = 2 ∧ 128 ≤ (decodeN n b0 b1 b2 b3).1 ∧ (decodeN n b0 b1 b2 b3).1 < 2048) ∨ ((decodeN n b0 b1 b2 b3).2 = 3 ∧ 2048 ≤ (decodeN n b0 b1 b2 b3).1 ∧ (decodeN n b0 b1 b2 b3).1 < 65536 ∧ ((decodeN n b0 b1 b2 b3).1 < 55296 ∨ 57344 ≤ (decodeN n b0 b1 b2 b3).1)) ∨ ((decodeN n b0 b1 b2 b3).2 = 4 ∧ 65536 ≤ (decodeN n b0 b1 b2 b3).1 ∧ (decodeN n b0 b1 b2 b3).1 ≤ 1114111) := by
  revert h2
  unfold decodeN
  rw [if_neg (by omega)]
  repeat' split
  all_goals intro h2
  all_goals dsimp only at h2 ⊢
  all_goals omega
/-- Of any bytes: the rune, and how many bytes it takes: they are all none of ASCII. -/
theorem decodeGo_hi (s : ByteArray) (h0 : 0 < s.size) (h : 128 ≤ (s.get! 0).toNat) :
    1 ≤ (decodeGo s).2 ∧ (decodeGo s).2 ≤ s.size ∧ 128 ≤ (decodeGo s).1 ∧ (decodeGo s).1 ≤ 1114111 ∧ (∀ m, m < (decodeGo s).2 → 128 ≤ (s.get! m).toNat) ∧ ((decodeGo s).1 ≠ 65533 → 2 ≤ (decodeGo s).2) ∧ (decodeGo s).2 ≤ 4 := by
  have e : decodeGo s = decodeN (s.size - 0) (s.get! 0).toNat (s.get! (0 + 1)).toNat (s.get! (0 + 2)).toNat (s.get! (0 + 3)).toNat := by
    unfold decodeGo
    rw [if_neg (by omega), decode_at]
  rcases decodeN_hi (s.size - 0) (s.get! 0).toNat (s.get! (0 + 1)).toNat (s.get! (0 + 2)).toNat (s.get! (0 + 3)).toNat h with ⟨h1, h2⟩ | ⟨h1, h2, h3, h4, h5, h6, h7, h8⟩
  · rw [← e] at h1 h2
    rw [h1, h2]
    refine ⟨by omega, by omega, by omega, by omega, fun m hm => ?_, fun hn => absurd rfl hn, by omega⟩
    obtain rfl : m = 0 := by omega
    exact h
  · rw [← e] at h1 h2 h3 h4 h5 h7 h8
    refine ⟨by omega, by omega, h1, h2, fun m hm => ?_, fun _ => h3, h5⟩
    match m, hm with
    | 0, _ => exact h
    | 1, _ => exact h6
    | 2, hm => exact h7 (by omega)
    | 3, hm => exact h8 (by omega)
    | m + 4, hm => omega
/-- A rune of two bytes or more, and how many. -/
def WideR (r k : Nat) : Prop := (k = 2 ∧ 128 ≤ r ∧ r < 2048) ∨ (k = 3 ∧ 2048 ≤ r ∧ r < 65536 ∧ (r < 55296 ∨ 57344 ≤ r)) ∨ (k = 4 ∧ 65536 ≤ r ∧ r ≤ 1114111)
theorem decodeGo_wide (s : ByteArray) (h0 : 0 < s.size) (h : 128 ≤ (s.get! 0).toNat) (h2 : 2 ≤ (decodeGo s).2) : WideR (decodeGo s).1 (decodeGo s).2 := by
  have e : decodeGo s = decodeN (s.size - 0) (s.get! 0).toNat (s.get! (0 + 1)).toNat (s.get! (0 + 2)).toNat (s.get! (0 + 3)).toNat := by
    unfold decodeGo
    rw [if_neg (by omega), decode_at]
  rw [e] at h2 ⊢
  exact decodeN_wide _ _ _ _ _ h h2
theorem valid_wide {r k : Nat} (h : WideR r k) : Utf8.valid (r : Int) = true := by
  unfold Utf8.valid
  rcases h with ⟨_, h1, h2⟩ | ⟨_, h1, h2, h3⟩ | ⟨_, h1, h2⟩
  · simp; omega
  · simp; omega
  · simp; omega
theorem hi_byte {c : Nat} (h : 128 ≤ c) (h2 : c < 256) : UInt8.ofNat c ≠ 32 := fun e => by
  have := congrArg UInt8.toNat e
  rw [UInt8.toNat_ofNat'] at this
  have h3 : (32 : UInt8).toNat = 32 := rfl
  omega
theorem encode_wide {r k : Nat} (h : WideR r k) : (Utf8.encode (r : Int)).size = k ∧ (([32, 10] : List UInt8) == (Utf8.encode (r : Int)).toList) = false ∧ (Utf8.encode (r : Int)).data.toList.length = k := by
  have hv := valid_wide h
  unfold Utf8.encode
  simp only [hv, if_true, Int.toNat_natCast]
  rw [if_neg (by rcases h with h | h | h <;> omega)]
  rcases h with ⟨rfl, h1, h2⟩ | ⟨rfl, h1, h2, h3⟩ | ⟨rfl, h1, h2⟩
  · rw [if_pos (by omega)]
    refine ⟨rfl, ?_, rfl⟩
    rw [beq_eq_false_iff_ne, Lib.toList_data]
    intro e
    exact hi_byte (c := 192 + r / 64) (by omega) (by omega) (List.cons.inj e).1.symm
  · rw [if_neg (by omega), if_pos (by omega)]
    refine ⟨rfl, ?_, rfl⟩
    rw [beq_eq_false_iff_ne, Lib.toList_data]
    intro e
    have := congrArg List.length e
    simp at this
  · rw [if_neg (by omega), if_neg (by omega)]
    refine ⟨rfl, ?_, rfl⟩
    rw [beq_eq_false_iff_ne, Lib.toList_data]
    intro e
    have := congrArg List.length e
    simp at this
end Go.Proofs.YtlikmdeplpldlaaDoor
namespace Go.Proofs.YtlikmdeplpldlaaDoor
open Go.RowKit
set_option linter.unusedSimpArgs false
set_option linter.unusedVariables false
set_option maxRecDepth 100000

/-- What the library's variables hold. -/
structure LibV (w : World) : Prop where
  tabs : Lib.Utf8Tabs (Tryd.laysDR_ren.g 2) (Tryd.laysDR_ren.g 3) w
  max : ∃ m : Int, w.cell? ⟨0, 0, none⟩ = some (.int .i64 m)
theorem LibV.ext {w w' : World} (h : LibV w) (hx : Ext w w') : LibV w' :=
  ⟨⟨fun c hc => hx.cell (h.tabs.1 c hc), fun i hi => ⟨hx.cell (h.tabs.2 i hi).1, hx.cell (h.tabs.2 i hi).2⟩⟩, let ⟨m, hm⟩ := h.max; ⟨m, hx.cell hm⟩⟩
/-- DecodeRune at bytes that a slice shows. -/
theorem decode_at8 (g o n c : Nat) (bs : List UInt8) (w : World) (hl : bs.length = n) (hA : ∀ i, i < n → w.cell? ⟨g, o + i, none⟩ = some (.int .u8 (bs.getD i 0).toNat)) (hT : LibV w) (h0 : 0 < n) (h8 : 128 ≤ (bs.getD 0 0).toNat) :
    Calls Tryd.prog 55 #[.slice (some ⟨g, o, none⟩) n c] w fun e w' => ∃ r k : Nat, e = .returned (.tuple #[.int .i32 (r : Int), .int .i64 (k : Int)]) ∧ (1 ≤ k ∧ k ≤ n ∧ 128 ≤ r ∧ r ≤ 1114111 ∧ (∀ m, m < k → 128 ≤ (bs.getD m 0).toNat) ∧ (r ≠ 65533 → 2 ≤ k) ∧ k ≤ 4 ∧ (2 ≤ k → WideR r k)) ∧ Ext w w' := by
  have hg : ∀ m, m < n → ((⟨bs.toArray⟩ : ByteArray).get! m) = bs.getD m 0 := fun m hm => by
    show (bs.toArray)[m]! = _
    rw [getElem!_pos _ _ (by simp; omega)]
    simp [List.getD, List.getElem?_eq_getElem (show m < bs.length by omega)]
  have hsz : (⟨bs.toArray⟩ : ByteArray).size = n := by simp [ByteArray.size, hl]
  have hd := Any7.utf8_DecodeRune { Tryd.laysDR with } ⟨bs.toArray⟩ g o c w hT.tabs (fun j hj => by rw [hsz] at hj; rw [hg j hj]; exact hA j hj)
  rw [hsz] at hd
  refine hd.mono ?_
  rintro e w' ⟨rfl, hE⟩
  obtain ⟨a1, a2, a3, a4, a5, a6, a7⟩ := decodeGo_hi ⟨bs.toArray⟩ (by omega) (by rw [hg 0 h0]; exact h8)
  rw [hsz] at a2
  exact ⟨_, _, rfl, ⟨a1, a2, a3, a4, fun m hm => by rw [← hg m (by omega)]; exact a5 m hm, a6, a7, fun h2 => decodeGo_wide ⟨bs.toArray⟩ (by omega) (by rw [hg 0 h0]; exact h8) h2⟩, hE⟩
end Go.Proofs.YtlikmdeplpldlaaDoor
namespace Go.Proofs.YtlikmdeplpldlaaDoor
open Go.RowKit
set_option linter.unusedSimpArgs false
set_option linter.unusedVariables false
set_option maxRecDepth 100000

theorem noany_skip {bs : List UInt8} {j k : Nat} (h : Lib.NoAny bs [32, 10] j) (hk : ∀ m, m < k → 128 ≤ (bs.getD (j + m) 0).toNat) : Lib.NoAny bs [32, 10] (j + k) := fun i b hi hb => by
  by_cases h1 : i < j
  · exact h i b h1 hb
  · have h2 := hk (i - j) (by omega)
    rw [show j + (i - j) = i by omega] at h2
    have e : bs.getD i 0 = b := by simp [List.getD, hb]
    rw [e] at h2
    have n1 : b ≠ 32 := fun e => by subst e; revert h2; decide
    have n2 : b ≠ 10 := fun e => by subst e; revert h2; decide
    simp [n1, n2]
set_option maxHeartbeats 8000000 in
set_option maxRecDepth 100000 in
theorem indexAny_few8 (g o n c : Nat) (bs : List UInt8) (w : World) (hl : bs.length = n) (h2 : 2 ≤ n) (h8 : n ≤ 8) (hnc : n ≤ c) (hc : c ≤ maxLen) (hA : ∀ i, i < n → w.cell? ⟨g, o + i, none⟩ = some (.int .u8 (bs.getD i 0).toNat)) (hT : LibV w) :
    Calls Tryd.prog 43 #[.slice (some ⟨g, o, none⟩) n c, .string ⟨#[32, 10]⟩] w fun e w' => e = .returned (.int .i64 (Lib.indexAny bs [32, 10])) ∧ Ext w w' := by
  have HA := Lib.hid (And.intro hA hT)
  have hn1 : ((n : Int) == 1) = false := beq_eq_false_iff_ne.2 (by omega)
  have h8z : decide ((8 : Int) < (n : Int)) = false := decide_eq_false (by omega)
  have hcI : (c : Int) ≤ 9223372036854775807 := by unfold maxLen at hc; omega
  have HL := Lib.hid hl
  clear hA hl hT hc
  go_enter Tryd.func43, Tryd.ntmps43
  go_wp2_with (go_at_call 53; refine (shouldA _ _).mono ?_; rintro e w' ⟨rfl, hw⟩; rw [hw, h8z])
  go_loopw [12] (fun i wr => ∃ j : Nat, j ≤ n ∧ i = .int .i64 j ∧ Hid (Ext w wr) ∧ Hid (Lib.NoAny bs [32, 10] j)) (fun i _ => n - (intOf i).toNat)
  case atStart => exact ⟨0, Nat.zero_le _, rfl, Lib.hid (Ext.refl _), Lib.hid (Lib.NoAny.zero _ _)⟩
  case round =>
    obtain ⟨j, hj, rfl, HE, HN⟩ := hrel
    by_cases hlt : j < n
    · have hji : (j : Int) < (n : Int) := Int.ofNat_lt.2 hlt
      obtain ⟨x, hx⟩ : ∃ x, x = bs.getD j 0 := ⟨_, rfl⟩
      have hcell := HE.out.cell (HA.out.1 j hlt)
      rw [← hx] at hcell
      have HX : Hid (bs[j]? = some x) := Lib.hid (by rw [hx, Lib.getElem?_getD_sl bs j 0 (by rw [HL.out]; exact hlt)])
      have HXX := Lib.hid hx
      clear hx
      by_cases hx8 : x.toNat < 128
      · have hx9 : ((x.toNat : Nat) : Int) < 128 := by omega
        have hback : ((x.toNat : Int)).toNat.toUInt8 = x := by simp
        have hcon := Lib.contains_iff_indexByte [32, 10] x
        cases hin : ([32, 10] : List UInt8).contains x
        · rw [hin] at hcon
          have hlt2 : ¬ ((0 : Int) ≤ Lib.indexByte [32, 10] x) := of_decide_eq_false hcon.symm
          clear hcon
          go_wp2
          rw [run_callFunc_extern Tryd.func51 (by kernel_rfl) (by kernel_rfl) (by kernel_rfl) (e := Extern.BytealgIndexByte.indexByte) (by kernel_rfl), Lib.run_indexByteString, hback]
          simp only [Result.andThen]
          rw [Oper.upon_value]
          go_wp2
          exact ⟨⟨j + 1, by omega, by go_num, HE, Lib.hid (HN.out.succ HX.out hin)⟩, by simp [intOf]; omega⟩
        · rw [hin] at hcon
          have hge : (0 : Int) ≤ Lib.indexByte [32, 10] x := of_decide_eq_true hcon.symm
          clear hcon
          go_wp2
          rw [run_callFunc_extern Tryd.func51 (by kernel_rfl) (by kernel_rfl) (by kernel_rfl) (e := Extern.BytealgIndexByte.indexByte) (by kernel_rfl), Lib.run_indexByteString, hback]
          simp only [Result.andThen]
          rw [Oper.upon_value]
          go_wp2
          go_ret
          exact ⟨by rw [Lib.indexAny_hit HN.out HX.out hin]; rfl, HE.out⟩
      · have hx9 : ¬ ((x.toNat : Nat) : Int) < 128 := by omega
        have hx255 : ((x.toNat : Nat) : Int) < 256 := by have := x.toNat_lt; omega
        have hdc := decode_at8 g (o + j) (n - j) (c - j) (bs.drop j) wr (by rw [List.length_drop, HL.out]) (fun i hi => by
          have h0 := HE.out.cell (HA.out.1 (j + i) (by omega))
          rw [show o + (j + i) = o + j + i by omega] at h0
          rw [h0]; simp [List.getD, List.getElem?_drop]) (HA.out.2.ext HE.out) (by omega) (by
          have e : (bs.drop j).getD 0 0 = x := by rw [HXX.out]; simp [List.getD, List.getElem?_drop]
          rw [e]; omega)
        have HDC := Lib.hid hdc
        clear hdc
        go_upto_region 40 with (go_at_call 55; refine HDC.out.mono ?_; rintro e w5 ⟨r, k, rfl, hrk, hE5⟩; have HRK := Lib.hid (And.intro hrk hE5); clear hrk hE5)
        have hk1 : 1 ≤ k := HRK.out.1.1
        have hk4 : k ≤ 4 := HRK.out.1.2.2.2.2.2.2.1
        have hkn : k ≤ n - j := HRK.out.1.2.1
        have hr128 : (128 : Int) ≤ (r : Int) := by have := HRK.out.1.2.2.1; omega
        have hrmax : (r : Int) ≤ 1114111 := by have := HRK.out.1.2.2.2.1; omega
        have HN2 : Hid (Lib.NoAny bs [32, 10] (j + k)) := Lib.hid (noany_skip HN.out (fun m hm => by
          have h0 := HRK.out.1.2.2.2.2.1 m hm
          rwa [show (bs.drop j).getD m 0 = bs.getD (j + m) 0 by simp [List.getD, List.getElem?_drop]] at h0))
        by_cases hr : r = 65533
        · subst hr
          go_wp2
          go_loopg [15] 2 (fun gk _ wx => ∃ i : Nat, i + gk = 2 ∧ wx = w5.iter ⟨#[32, 10]⟩ i)
          case atStart => exact ⟨0, by omega, rfl⟩
          case round =>
            obtain ⟨i, hig, rfl⟩ := hrel
            cases gk with
            | zero =>
              obtain rfl : i = 2 := by omega
              have hnx := run_next_end (P := Tryd.prog) w5 ⟨#[32, 10]⟩ 2
              go_wp2
              exact ⟨⟨j + k, by omega, by go_num, Lib.hid (HE.out.trans (HRK.out.2.trans ((Ext.refl w5).alloc _))), HN2⟩, by simp [intOf]; omega⟩
            | succ gk =>
              rcases (by omega : i = 0 ∨ i = 1) with rfl | rfl
              · have hnx := fun ty => run_next_ascii (P := Tryd.prog) w5 ⟨#[32, 10]⟩ 0 ty (by decide) (by decide)
                go_wp2
                go_roundg gk
                case measure => omega
                case rel => exact ⟨1, by omega, rfl⟩
              · have hnx := fun ty => run_next_ascii (P := Tryd.prog) w5 ⟨#[32, 10]⟩ 1 ty (by decide) (by decide)
                go_wp2
                go_roundg gk
                case measure => omega
                case rel => exact ⟨2, by omega, rfl⟩
        · have hr32 : ((r : Int) == ((((⟨#[32, 10]⟩ : ByteArray)[0]'(by decide)).toNat : Nat) : Int)) = false := beq_eq_false_iff_ne.2 (by show (r : Int) ≠ ((32 : Nat) : Int); omega)
          have hr10 : ((r : Int) == ((((⟨#[32, 10]⟩ : ByteArray)[1]'(by decide)).toNat : Nat) : Int)) = false := beq_eq_false_iff_ne.2 (by show (r : Int) ≠ ((10 : Nat) : Int); omega)
          have hrI : ((r : Int) == 65533) = false := beq_eq_false_iff_ne.2 (by omega)
          have hk2 : 2 ≤ k := HRK.out.1.2.2.2.2.2.1 hr
          have hwd := encode_wide (HRK.out.1.2.2.2.2.2.2.2 hk2)
          obtain ⟨tx, htx⟩ : ∃ t : ByteArray, t = Utf8.encode (r : Int) := ⟨_, rfl⟩
          rw [← htx] at hwd
          obtain ⟨ht1, ht2, ht3⟩ := hwd
          have hcvr : (convert 21 9 (.int .i32 (r : Int))).run Tryd.prog w5 = .ok (.string tx) w5 := by
            rw [htx]
            simp [convert, run_underlying Tryd.underlying21, run_underlying Tryd.underlying9, Result.andThen, Conv.intToString]
          have HTX := Lib.hid (And.intro ht1 ht3)
          clear ht1 ht3 htx
          by_cases hk22 : k = 2
          · subst hk22
            go_wp2
            exact ⟨⟨j + 2, by omega, by go_num, Lib.hid (HE.out.trans HRK.out.2), HN2⟩, by simp [intOf]; omega⟩
          · have hkk : ((2 : Int) == (k : Int)) = false := beq_eq_false_iff_ne.2 (by omega)
            obtain ⟨m, hm⟩ := ((HA.out.2.ext HE.out).ext HRK.out.2).max
            by_cases hmk : (k : Int) ≤ m
            · have hidx : Lib.index [32, 10] tx.data.toList = -1 := Lib.index_past (i := 0) (fun e => by have := HTX.out.2; rw [e] at this; simp at this; omega) (fun j hj => absurd hj (Nat.not_lt_zero _)) (by rw [HTX.out.2]; simp; omega)
              go_wp2
              rw [run_callFunc_extern Tryd.func56 (by kernel_rfl) (by kernel_rfl) (by kernel_rfl) (e := Extern.BytealgIndex.index) (by kernel_rfl), Lib.run_indexString _ _ _ 0 m (by kernel_rfl) hm (by rw [HTX.out.1]; exact hk2) (by rw [HTX.out.1]; exact hmk) (by decide), hidx]
              simp only [Result.andThen]
              rw [Oper.upon_value]
              go_wp2
              exact ⟨⟨j + k, by omega, by go_num, Lib.hid (HE.out.trans HRK.out.2), HN2⟩, by simp [intOf]; omega⟩
            · go_wp2
              go_loopg [15] 2 (fun gk _ wx => ∃ i : Nat, i + gk = 2 ∧ wx = w5.iter ⟨#[32, 10]⟩ i)
              case atStart => exact ⟨0, by omega, rfl⟩
              case round =>
                obtain ⟨i, hig, rfl⟩ := hrel
                cases gk with
                | zero =>
                  obtain rfl : i = 2 := by omega
                  have hnx := run_next_end (P := Tryd.prog) w5 ⟨#[32, 10]⟩ 2
                  go_wp2
                  exact ⟨⟨j + k, by omega, by go_num, Lib.hid (HE.out.trans (HRK.out.2.trans ((Ext.refl w5).alloc _))), HN2⟩, by simp [intOf]; omega⟩
                | succ gk =>
                  rcases (by omega : i = 0 ∨ i = 1) with rfl | rfl
                  · have hnx := fun ty => run_next_ascii (P := Tryd.prog) w5 ⟨#[32, 10]⟩ 0 ty (by decide) (by decide)
                    go_wp2
                    go_roundg gk
                    case measure => omega
                    case rel => exact ⟨1, by omega, rfl⟩
                  · have hnx := fun ty => run_next_ascii (P := Tryd.prog) w5 ⟨#[32, 10]⟩ 1 ty (by decide) (by decide)
                    go_wp2
                    go_roundg gk
                    case measure => omega
                    case rel => exact ⟨2, by omega, rfl⟩
    · have hji : ¬ (j : Int) < (n : Int) := fun e => hlt (Int.ofNat_lt.1 e)
      obtain rfl : j = n := by omega
      go_wp2
      go_ret
      exact ⟨by rw [Lib.indexAny_none (by rw [HL.out]; exact HN.out)]; rfl, HE.out⟩
end Go.Proofs.YtlikmdeplpldlaaDoor
namespace Go.Proofs.YtlikmdeplpldlaaDoor
open Go.RowKit
set_option linter.unusedSimpArgs false
set_option linter.unusedVariables false
set_option maxRecDepth 100000

set_option maxHeartbeats 4000000 in
theorem indexAny_no (p : Option Addr) (c : Nat) (w : World) :
    Calls Tryd.prog 43 #[.slice p 0 c, .string ⟨#[32, 10]⟩] w fun e w' => e = .returned (.int .i64 (-1)) ∧ Ext w w' := by
  go_enter Tryd.func43, Tryd.ntmps43
  go_wp2_with (go_at_call 53; refine (shouldA _ _).mono ?_; rintro e w' ⟨rfl, hw⟩; rw [hw])
  go_loopw [12] (fun i wr => i = .int .i64 0 ∧ wr = w) (fun i _ => 0)
  case atStart => exact ⟨rfl, rfl⟩
  case round =>
    obtain ⟨rfl, hwr⟩ := hrel
    subst hwr
    go_wp2
    go_ret
    exact ⟨rfl, Ext.refl _⟩
set_option maxHeartbeats 4000000 in
theorem indexAny_sole (g o c : Nat) (x : UInt8) (w : World) (hc : w.cell? ⟨g, o, none⟩ = some (.int .u8 (x.toNat : Int))) :
    Calls Tryd.prog 43 #[.slice (some ⟨g, o, none⟩) 1 c, .string ⟨#[32, 10]⟩] w fun e w' => e = .returned (.int .i64 (Lib.indexAny [x] [32, 10])) ∧ Ext w w' := by
  have hx255 : ((x.toNat : Nat) : Int) < 256 := by have := x.toNat_lt; omega
  by_cases hx8 : x.toNat < 128
  · have hx9 : ((x.toNat : Nat) : Int) < 128 := by omega
    have hback : ((x.toNat : Int)).toNat.toUInt8 = x := by simp
    have hcon := Lib.contains_iff_indexByte [32, 10] x
    cases hin : ([32, 10] : List UInt8).contains x
    · rw [hin] at hcon
      have hlt2 : ¬ ((0 : Int) ≤ Lib.indexByte [32, 10] x) := of_decide_eq_false hcon.symm
      clear hcon
      go_enter Tryd.func43, Tryd.ntmps43
      go_wp2
      rw [run_callFunc_extern Tryd.func51 (by kernel_rfl) (by kernel_rfl) (by kernel_rfl) (e := Extern.BytealgIndexByte.indexByte) (by kernel_rfl), Lib.run_indexByteString, hback]
      simp only [Result.andThen]
      rw [Oper.upon_value]
      go_wp2
      go_ret
      exact ⟨by rw [Lib.indexAny_none (s := [x]) (fun j b hj hb => by
        obtain rfl : j = 0 := by simp at hj; omega
        simp at hb; subst hb; exact hin)]; rfl, Ext.refl _⟩
    · rw [hin] at hcon
      have hge : (0 : Int) ≤ Lib.indexByte [32, 10] x := of_decide_eq_true hcon.symm
      clear hcon
      go_enter Tryd.func43, Tryd.ntmps43
      go_wp2
      rw [run_callFunc_extern Tryd.func51 (by kernel_rfl) (by kernel_rfl) (by kernel_rfl) (e := Extern.BytealgIndexByte.indexByte) (by kernel_rfl), Lib.run_indexByteString, hback]
      simp only [Result.andThen]
      rw [Oper.upon_value]
      go_wp2
      go_ret
      exact ⟨by rw [Lib.indexAny_hit (s := [x]) (Lib.NoAny.zero _ _) rfl hin]; rfl, Ext.refl _⟩
  · have hx9 : ¬ ((x.toNat : Nat) : Int) < 128 := by omega
    have hno : Lib.indexAny [x] [32, 10] = -1 := Lib.indexAny_none (fun j b hj hb => by
      obtain rfl : j = 0 := by simp at hj; omega
      simp at hb
      subst hb
      have n1 : x ≠ 32 := fun e => by subst e; revert hx8; decide
      have n2 : x ≠ 10 := fun e => by subst e; revert hx8; decide
      simp [n1, n2])
    rw [hno]
    go_enter Tryd.func43, Tryd.ntmps43
    go_wp2
    go_loopg [5] 2 (fun gk _ wx => ∃ i : Nat, i + gk = 2 ∧ wx = w.iter ⟨#[32, 10]⟩ i)
    case atStart => exact ⟨0, by omega, rfl⟩
    case round =>
      obtain ⟨i, hig, rfl⟩ := hrel
      cases gk with
      | zero =>
        obtain rfl : i = 2 := by omega
        have hnx := run_next_end (P := Tryd.prog) w ⟨#[32, 10]⟩ 2
        go_wp2
        go_ret
        exact ⟨rfl, (Ext.refl w).alloc _⟩
      | succ gk =>
        rcases (by omega : i = 0 ∨ i = 1) with rfl | rfl
        · have hnx := fun ty => run_next_ascii (P := Tryd.prog) w ⟨#[32, 10]⟩ 0 ty (by decide) (by decide)
          go_wp2
          go_roundg gk
          case measure => omega
          case rel => exact ⟨1, by omega, rfl⟩
        · have hnx := fun ty => run_next_ascii (P := Tryd.prog) w ⟨#[32, 10]⟩ 1 ty (by decide) (by decide)
          go_wp2
          go_roundg gk
          case measure => omega
          case rel => exact ⟨2, by omega, rfl⟩
end Go.Proofs.YtlikmdeplpldlaaDoor
namespace Go.Proofs.YtlikmdeplpldlaaDoor
open Go.RowKit
set_option linter.unusedSimpArgs false
set_option linter.unusedVariables false
set_option maxRecDepth 100000

/-- Bytes of any kind as a slice shows them. -/
structure RdA (w : World) (g o n c : Nat) (bs : List UInt8) : Prop where
  len : bs.length = n
  le : n ≤ c
  max : c ≤ maxLen
  cells : ∀ i, i < n → w.cell? ⟨g, o + i, none⟩ = some (.int .u8 (bs.getD i 0).toNat)
section
variable {w w' : World} {g o n c : Nat} {bs : List UInt8}
theorem RdA.drop (h : RdA w g o n c bs) (k : Nat) (hk : k ≤ n) : RdA w g (o + k) (n - k) (c - k) (bs.drop k) := by
  refine ⟨by rw [List.length_drop, h.len], by have := h.le; omega, by have := h.max; omega, fun i hi => ?_⟩
  have h1 := h.cells (k + i) (by omega)
  rw [show o + (k + i) = o + k + i by omega] at h1
  rw [h1]
  simp [List.getD, List.getElem?_drop]
theorem RdA.kb {S : List Nat} (h : RdA w g o n c bs) (hk : Kb S w w') (hg : g ∉ S) : RdA w' g o n c bs :=
  ⟨h.len, h.le, h.max, fun i hi => hk.cell hg (h.cells i hi)⟩
theorem RdA.ext (h : RdA w g o n c bs) (hk : Ext w w') : RdA w' g o n c bs :=
  ⟨h.len, h.le, h.max, fun i hi => hk.cell (h.cells i hi)⟩
theorem RdA.str (h : RdA w g o n c bs) (l r : List UInt8) (e : bs = l ++ r) : ∀ j (hj : j < l.length), w.cell? ((⟨g, o, none⟩ : Addr).add j) = some (.int .u8 (l[j].toNat : Int)) := fun j hj => by
  have hn : j < n := by rw [← h.len, e, List.length_append]; omega
  rw [Lib.add_plain, h.cells j hn, e]
  simp [List.getD, List.getElem?_append_left hj, List.getElem?_eq_getElem hj]
theorem RdA.ints (h : RdA w g o n c bs) : Lib.BytesIn w (some ⟨g, o, none⟩) n (bs.map fun b => (b.toNat : Int)) := fun _ => ⟨g, o, rfl, fun i hi => by
  rw [h.cells i hi]
  simp [List.getD, List.getElem?_map, List.getElem?_eq_getElem (show i < bs.length by rw [h.len]; exact hi)]⟩
end
/-- A slice of bytes, or nil. -/
def PcA (w : World) (g : Nat) (p : Option Addr) (n c : Nat) (bs : List UInt8) : Prop := (p = none ∧ n = 0 ∧ c = 0 ∧ bs = []) ∨ ∃ o, p = some ⟨g, o, none⟩ ∧ RdA w g o n c bs
theorem PcA.ext {w w' : World} {g : Nat} {p : Option Addr} {n c : Nat} {bs : List UInt8} (h : PcA w g p n c bs) (hx : Ext w w') : PcA w' g p n c bs := by
  rcases h with h | ⟨o, rfl, h⟩
  · exact .inl h
  · exact .inr ⟨o, rfl, h.ext hx⟩
theorem PcA.kb {S : List Nat} {w w' : World} {g : Nat} {p : Option Addr} {n c : Nat} {bs : List UInt8} (h : PcA w g p n c bs) (hk : Kb S w w') (hg : g ∉ S) : PcA w' g p n c bs := by
  rcases h with h | ⟨o, rfl, h⟩
  · exact .inl h
  · exact .inr ⟨o, rfl, h.kb hk hg⟩
theorem leftA_at (g o n c k : Nat) (h : k < n) (hc : n ≤ c) : Lib.leftV (some ⟨g, o, none⟩) n c k = .slice (some ⟨g, o + k, none⟩) (n - k) (c - k) := by
  unfold Lib.leftV Lib.fromV
  rw [if_neg (by omega), if_neg (by omega), Option.map_some, Lib.add_plain]
theorem trim_drop : ∀ bs : List UInt8, ∃ k, k ≤ bs.length ∧ Lib.trimLeftS bs [32, 10] = bs.drop k
  | [] => ⟨0, Nat.le_refl _, rfl⟩
  | b :: l => by
    obtain ⟨k, hk, h⟩ := trim_drop l
    unfold Lib.trimLeftS at h ⊢
    rw [List.dropWhile_cons]
    split
    · exact ⟨k + 1, by simp; omega, by rw [h]; rfl⟩
    · exact ⟨0, Nat.zero_le _, rfl⟩
theorem trim_head (bs : List UInt8) (b : UInt8) (h : (Lib.trimLeftS bs [32, 10])[0]? = some b) : ([32, 10] : List UInt8).contains b = false := by
  unfold Lib.trimLeftS at h
  have h1 := List.head?_dropWhile_not (([32, 10] : List UInt8).contains ·) bs
  rw [← List.head?_eq_getElem?] at h
  rw [h] at h1
  simpa using h1
/-- TrimLeft on a piece. -/
theorem trimA (g : Nat) (p : Option Addr) (n c : Nat) (bs : List UInt8) (w : World) (hP : PcA w g p n c bs) :
    Calls Tryd.prog 42 #[.slice p n c, .string ⟨#[32, 10]⟩] w fun e w' => ∃ p1 n1 c1, e = .returned (.slice p1 n1 c1) ∧ Ext w w' ∧ ((p1 = none ∧ n1 = 0 ∧ c1 = 0 ∧ Lib.trimLeftS bs [32, 10] = []) ∨ (0 < n1 ∧ ∃ o, p1 = some ⟨g, o, none⟩ ∧ RdA w' g o n1 c1 (Lib.trimLeftS bs [32, 10]))) := by
  have hA : ∀ (j : Nat) b, ((⟨#[32, 10]⟩ : ByteArray).data.toList)[j]? = some b → b.toNat < 128 := fun j b hb => by
    match j with
    | 0 => simp at hb; subst hb; decide
    | 1 => simp at hb; subst hb; decide
    | j + 2 => simp at hb
  rcases hP with ⟨rfl, rfl, rfl, rfl⟩ | ⟨o, rfl, h⟩
  · refine (Any.bytes_TrimLeft_ascii { Tryd.laysTL with } (zero_of_info infoSet).1 (zero_of_info infoSet).2 none 0 0 [] ⟨#[32, 10]⟩ w rfl (Nat.le_refl _) (by omega) (fun h => absurd h (Nat.lt_irrefl _)) (by decide) hA).mono ?_
    rintro e w' ⟨rfl, hE⟩
    exact ⟨none, 0, 0, rfl, hE, .inl ⟨rfl, rfl, rfl, rfl⟩⟩
  · refine (Any.bytes_TrimLeft_ascii { Tryd.laysTL with } (zero_of_info infoSet).1 (zero_of_info infoSet).2 (some ⟨g, o, none⟩) n c bs ⟨#[32, 10]⟩ w h.len h.le (by have := h.max; unfold maxLen at this; omega) (fun _ => ⟨g, o, rfl, h.cells⟩) (by decide) hA).mono ?_
    rintro e w' ⟨rfl, hE⟩
    obtain ⟨k, hk, e⟩ := trim_drop bs
    rw [show (⟨#[32, 10]⟩ : ByteArray).data.toList = [32, 10] from rfl, e, List.length_drop]
    have hl := h.len
    have hc := h.le
    by_cases h0 : k = n
    · refine ⟨none, 0, 0, ?_, hE, .inl ⟨rfl, rfl, rfl, by rw [List.drop_eq_nil_iff]; omega⟩⟩
      unfold Lib.leftV
      rw [if_pos (by omega)]
    · refine ⟨some ⟨g, o + k, none⟩, n - k, c - k, ?_, hE, .inr ⟨by omega, o + k, rfl, (h.ext hE).drop k (by omega)⟩⟩
      rw [show n - (bs.length - k) = k by omega, leftA_at g o n c k (by omega) hc]
/-- IndexAny on a piece that is not empty. -/
theorem indexA (g o n c : Nat) (bs : List UInt8) (w : World) (h : RdA w g o n c bs) (hT : LibV w) :
    Calls Tryd.prog 43 #[.slice (some ⟨g, o, none⟩) n c, .string ⟨#[32, 10]⟩] w fun e w' => e = .returned (.int .i64 (Lib.indexAny bs [32, 10])) ∧ Ext w w' := by
  by_cases h8 : 8 < n
  · exact indexAny_many g o n c bs w h.len h8 h.le h.max h.cells
  by_cases h2 : 2 ≤ n
  · exact indexAny_few8 g o n c bs w h.len h2 (by omega) h.le h.max h.cells hT
  by_cases h1 : n = 1
  · subst h1
    obtain ⟨x, rfl⟩ : ∃ x, bs = [x] := by
      match bs, h.len with
      | [x], _ => exact ⟨x, rfl⟩
    exact indexAny_sole g o c x w (h.cells 0 (by omega))
  · obtain rfl : n = 0 := by omega
    obtain rfl : bs = [] := List.eq_nil_of_length_eq_zero h.len
    exact indexAny_no _ c w
/-- Where the number ends. -/
theorem index_at : ∀ bs : List UInt8, Lib.indexAny bs [32, 10] = -1 ∨ ∃ l, l < bs.length ∧ Lib.indexAny bs [32, 10] = (l : Int)
  | [] => .inl rfl
  | b :: r => by
    rw [Lib.indexAny]
    split
    · exact .inr ⟨0, by simp, rfl⟩
    · rcases index_at r with e | ⟨l, hl, e⟩
      · rw [e]; exact .inl rfl
      · rw [e]
        rw [if_neg (by simp)]
        exact .inr ⟨l + 1, by simpa using hl, by simp⟩
theorem index_pos (bs : List UInt8) (h : 0 < bs.length) (hb : ∀ b, bs[0]? = some b → ([32, 10] : List UInt8).contains b = false) : Lib.indexAny bs [32, 10] = -1 ∨ ∃ l, 0 < l ∧ l < bs.length ∧ Lib.indexAny bs [32, 10] = (l : Int) := by
  match bs, h with
  | b :: r, _ =>
    have h0 := hb b rfl
    rw [Lib.indexAny, if_neg (by rw [h0]; simp)]
    rcases index_at r with e | ⟨l, hl, e⟩
    · rw [e]; exact .inl rfl
    · rw [e]
      rw [if_neg (by simp)]
      exact .inr ⟨l + 1, by omega, by simpa using hl, by simp⟩
theorem parse10_lt : ∀ (l : List UInt8) (acc u : Nat), Lib.parseUint10 acc l = .ok u → u < (acc + 1) * 10 ^ l.length
  | [], acc, u, h => by
    simp only [Lib.parseUint10] at h
    injection h with h
    simp; omega
  | c :: r, acc, u, h => by
    simp only [Lib.parseUint10] at h
    split at h
    · split at h
      · cases h
      · split at h
        · cases h
        · have h1 := parse10_lt r _ u h
          rw [List.length_cons, Nat.pow_succ']
          refine Nat.lt_of_lt_of_le h1 ?_
          rw [← Nat.mul_assoc]
          exact Nat.mul_le_mul_right _ (by omega)
    · cases h
theorem atoi_eight (l : List UInt8) (q : Int) (hl : l.length ≤ 8) (h : Lib.atoiAll l = .ok q) : -100000000 ≤ q ∧ q ≤ 100000000 := by
  have hp : ∀ k, k ≤ 8 → 10 ^ k ≤ 100000000 := fun k hk => Nat.pow_le_pow_right (by omega) hk
  have hm : ∀ m : List UInt8, m.length ≤ 8 → ∀ u, Lib.parseMag m = .ok u → u ≤ 100000000 := fun m hm u hu => by
    unfold Lib.parseMag at hu
    split at hu
    · cases hu
    · have h1 := parse10_lt m 0 u hu
      have h2 := hp m.length hm
      omega
  match l with
  | [] => cases h
  | c :: r =>
    unfold Lib.atoiAll at h
    simp only at h
    split at h
    · cases h
    · cases h
    · rename_i u hu
      have hu2 := hm _ (by split <;> simp at hl ⊢ <;> omega) u hu
      split at h
      · cases h
      · split at h
        · cases h
        · injection h with h
          rw [← h]
          split <;> omega
end Go.Proofs.YtlikmdeplpldlaaDoor

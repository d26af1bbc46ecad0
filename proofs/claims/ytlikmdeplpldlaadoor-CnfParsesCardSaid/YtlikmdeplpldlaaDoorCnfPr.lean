/-
  The walk of Parse over the text of a formula.
  Conditions: the formula is one, and small; the table of powers is laid.
-/
import Derived.Test.YtlikmdeplpldlaaDoorCnfPt
import Derived.Test.YtlikmdeplpldlaaDoorCnfW
import Derived.Test.YtlikmdeplpldlaaDoorCnfV
namespace Go.Proofs.YtlikmdeplpldlaaDoor
open Go.RowKit
set_option linter.unusedSimpArgs false
set_option linter.unusedVariables false
set_option maxRecDepth 100000

def ParseP (W : World) (x : Int) (rs : List (List Int)) (e : Ending) (w' : World) : Prop :=
  ∃ cv vs, e = .returned (.tuple #[.agg #[.int .i64 x, cv], .int .i64 0, .int .i64 0]) ∧ RowsIn w' cv vs rs ∧ Ext W w'
theorem RdAt.of_own {w : World} {base g n cap : Nat} {bs : List UInt8} (h : OwnM w base g n cap bs) (ha : ∀ b ∈ bs, b.toNat < 128) : RdAt w g 0 n cap bs :=
  ⟨h.len, h.le, h.max, ha, fun i hi => by
    have hl : i < bs.length := by rw [h.len]; exact hi
    rw [Nat.zero_add]
    refine h.cells i _ ?_
    simp [Lib.byteCells, hl, Lib.getD_lt_sl bs i 0 hl]⟩
theorem RdAt.lit (w : World) (bs : List UInt8) (arr : Array Value) (e : TypeId) (f : Nat × Nat) (g : Nat) (hg : g = w.heap.size) (ha : ∀ b ∈ bs, b.toNat < 128) (harr : arr.toList = Lib.byteCells bs) (hl : bs.length ≤ maxLen) : RdAt (w.alloc (.cells arr e f)) g 0 bs.length bs.length bs := by
  subst hg
  refine ⟨rfl, Nat.le_refl _, hl, ha, fun i hi => ?_⟩
  have hh : (w.alloc (.cells arr e f)).heap[w.heap.size]? = some (.cells arr e f) := heap_alloc_new w _
  simp only [World.cell?, hh, Nat.zero_add]
  rw [← Array.getElem?_toList, harr]
  simp [Lib.byteCells, hi, Lib.getD_lt_sl bs i 0 hi]
theorem results_cell_tmp2 {P : Program} {fn : Func} {tmps : Array Value} {w : World} {p u u2 : Tmp} {ty : TypeId} (h : fn.results = #[.cell p ty, .tmp u, .tmp u2]) (g : Nat) (t : TypeId) (cs : Array Value) (fr : Nat × Nat) (d : TypeDesc)
    (hp : tmps.getD p undef = .pointer (some ⟨g, 0, none⟩)) (hg : w.heap[g]? = some (.cells cs t fr))
    (hu : P.underlying ty = some d) (hd : (match d with | .struct _ | .array _ _ => true | _ => false) = true) (hi : (P.info? ty).map (·.size) = some cs.size) :
    (results fn tmps).run P w = .ok (.tuple #[.agg cs, tmps.getD u undef, tmps.getD u2 undef]) w := by
  have hp' : tmps[p]?.getD undef = .pointer (some ⟨g, 0, none⟩) := by simpa using hp
  simp [results, h, hp', asAddr, run_loadVar_row w g t ty cs fr d hg hu hd hi]
theorem ret_row3 {P : Program} {fn : Func} {R : Ending → World → Prop} {a : Act} {w : World} {p u u2 : Tmp} {ty : TypeId} (h : fn.results = #[.cell p ty, .tmp u, .tmp u2]) (n : Nat) (t : TypeId) (cs : Array Value) (d : TypeDesc)
    (hp : a.tmps.getD p undef = .pointer (some ⟨n, 0, none⟩)) (hg : w.heap[n]? = some (.cells cs t (0, 0)))
    (hu : P.underlying ty = some d) (hd : (match d with | .struct _ | .array _ _ => true | _ => false) = true) (hi : (P.info? ty).map (·.size) = some cs.size) (hdf : a.defers = [])
    (hR : R (.returned (.tuple #[.agg cs, a.tmps.getD u undef, a.tmps.getD u2 undef])) w) : bodyPost P fn R .ret a w :=
  bodyPost_ret (results_cell_tmp2 h _ _ _ _ _ hp hg hu hd hi) hdf hR
theorem nxB_lt {r : List Int} {tail : List UInt8} {k : Nat} (h : k < r.length) : nxB r tail k = 32 :: rdB r tail (k + 1) := by unfold nxB; rw [if_pos h]
theorem nxB_end (r : List Int) (tail : List UInt8) : nxB r tail r.length = 10 :: tail := by unfold nxB; rw [if_neg (Nat.lt_irrefl _)]
theorem PS.lit {W w : World} {X F D g o n c : Nat} {x : Int} {ov pv : Value} {vs : List Value} {os : List (List Int)} {ps r : List Int} {tail : List UInt8} {k : Nat} {s0 : UInt8} (h : PS W X F D g x o n c (s0 :: rdB r tail k) ov vs os pv ps w) (hk : k ≤ r.length) (hb : ∀ l ∈ r, -1000000 ≤ l ∧ l ≤ 1000000) (h0 : s0 = 32 ∨ s0 = 10) :
    Calls Tryd.prog 37 #[.pointer (some ⟨X, 0, none⟩)] w fun e w' => ∃ v, e = .returned (.int .i64 v) ∧ v = r.getD k 0 ∧ ∃ o' n' c', PS W X F D g x o' n' c' (nxB r tail k) ov vs os pv ps w' := by
  obtain ⟨sep, rest, hs, e1, e2⟩ := rdB_at r tail k hk
  have hq : -1000000 ≤ r.getD k 0 ∧ r.getD k 0 ≤ 1000000 := by
    by_cases hl : k < r.length
    · rw [Lib.getD_lt_sl r k 0 hl]; exact hb _ (List.getElem_mem _)
    · simp [List.getD, List.getElem?_eq_none (show r.length ≤ k by omega)]
  rw [e1] at h
  rw [e2]
  refine (h.number (ws := [s0]) (by simpa using h0) (by omega) (by omega) hs).mono ?_
  rintro e w' ⟨he, hp⟩
  exact ⟨_, he, rfl, hp⟩
set_option maxHeartbeats 16000000 in
theorem parse_text (x : Int) (rs : List (List Int)) (w : World) (hc : chkF x rs = 0) (hx : x ≤ 200000) (hs : szF rs ≤ 200000) (htab : Lib.TabIs Tryd.prog w "internal/strconv.uint64pow10" .u64 Lib.pow10Tab) :
    Calls Tryd.prog 23 #[.string ⟨(textF x rs).toArray⟩] w (ParseP w x rs) := by
  have hmf : ∀ (fn : Fn) (first cap : Array Value) (w : World), (Instr.makeFunc fn first cap).run Tryd.prog w = .ok (.func fn first cap) w := fun _ _ _ _ => rfl
  obtain ⟨Q, hQ⟩ : ∃ Q, Q = ParseP w x rs := ⟨_, rfl⟩
  rw [← hQ]
  have HQ := Lib.hid hQ
  rcases chkF_or x rs with h40 | ⟨_, hx0, hok⟩
  · omega
  have hlb : ∀ c ∈ rs, ∀ l ∈ c, (l ≠ 0 ∧ l ≤ x ∧ -x ≤ l) := fun c hc q hq => by
    have := List.all_eq_true.1 (List.all_eq_true.1 hok c hc) q hq
    unfold litOk at this
    simp at this
    omega
  have hlen := textF_len x rs (by omega) (by omega) hs (fun c hc q hq => by have := hlb c hc q hq; omega)
  obtain ⟨tb, htb⟩ : ∃ t, t = textF x rs := ⟨_, rfl⟩
  rw [← htb] at hlen ⊢
  obtain ⟨tx, htx⟩ : ∃ t : ByteArray, t = ⟨tb.toArray⟩ := ⟨_, rfl⟩
  have hsz : tx.size = tb.length := by rw [htx]; simp [ByteArray.size]
  have hsz2 : (tx.size : Int) ≤ 2000000 := by omega
  have H0 := Lib.hid (And.intro hc (And.intro hs (And.intro htab hlb)))
  have HT := Lib.hid (And.intro htb (And.intro htx hsz))
  rw [← htx]
  have hE1 : Ext w (w.alloc (.cells #[.int .i64 0, .slice none 0 0] 24)) := (Ext.refl w).alloc _
  have hD1 := heap_alloc_last w (.cells #[.int .i64 0, .slice none 0 0] 24)
  have H1 := Lib.hid (And.intro hE1 hD1)
  clear hQ hc hs htab hlb hok htb htx hsz hE1 hD1
  go_enter Tryd.func23, Tryd.ntmps23
  go_upto_region 3 with fail
  obtain ⟨D, hD⟩ : ∃ D, D = w.heap.size := ⟨_, rfl⟩
  rw [← hD] at H1 ⊢
  generalize w.alloc (.cells #[.int .i64 0, .slice none 0 0] 24) = w1 at H1 ⊢
  have HD := Lib.hid hD
  clear hD
  obtain ⟨cap, w2, hcv, hown, hx2⟩ := conv_bytes (P := Tryd.prog) w1 9 64 5 tb w.heap.size Tryd.underlying9 Tryd.underlying64 Tryd.underlying5 H1.out.1.size (by unfold maxLen; omega)
  rw [← HT.out.2.1] at hcv
  have hR2 := RdAt.of_own hown (by rw [HT.out.1]; exact textF_asc x rs)
  obtain ⟨g, hg⟩ : ∃ g, g = w1.heap.size := ⟨_, rfl⟩
  obtain ⟨m, hm⟩ : ∃ m, m = tb.length := ⟨_, rfl⟩
  rw [← hg, ← hm] at hcv hR2
  have hDg : D < g := by rw [hg]; exact (Array.getElem?_eq_some_iff.1 H1.out.2).1
  have hE3 : Ext w2 (w2.alloc (.cells #[.int .u8 112, .int .u8 32, .int .u8 99, .int .u8 110, .int .u8 102, .int .u8 32] 5 (6, 7))) := (Ext.refl w2).alloc _
  have hR3 := hR2.ext hE3
  have hP3 := RdAt.lit w2 [112, 32, 99, 110, 102, 32] #[.int .u8 112, .int .u8 32, .int .u8 99, .int .u8 110, .int .u8 102, .int .u8 32] 5 (6, 7) w2.heap.size rfl (by decide) rfl (by unfold maxLen; simp)
  rw [HT.out.1, textF_eq] at hR3
  have hCP := cutP g w2.heap.size m cap 6 6 [112, 32, 99, 110, 102, 32] _ _ hR3 hP3 (by decide) (by simp; omega)
  have HCP := Lib.hid hCP
  have kc := Lib.run_convert_bytes_const (P := Tryd.prog) w2 64 5 #[.int .u8 112, .int .u8 32, .int .u8 99, .int .u8 110, .int .u8 102, .int .u8 32] 6 6 Tryd.underlying64 Tryd.underlying5
  replace kc : (convert 64 64 (.slice (some ⟨w2.heap.size, 0, none⟩) 6 6)).run Tryd.prog (w2.alloc (.cells #[.int .u8 112, .int .u8 32, .int .u8 99, .int .u8 110, .int .u8 102, .int .u8 32] 5)) = .ok (.slice (some ⟨w2.heap.size, 0, none⟩) 6 6) (w2.alloc (.cells #[.int .u8 112, .int .u8 32, .int .u8 99, .int .u8 110, .int .u8 102, .int .u8 32] 5 (6, 7))) := kc
  have hmc : 6 + 1 ≤ m := by rw [← hR3.len]; simp; omega
  have hR4 := hR3.drop 6 (by omega)
  rw [Nat.zero_add] at hR4
  replace hR4 : RdAt _ g 6 (m - 6) (cap - 6) (Lib.itoa x ++ 32 :: (Lib.itoa (rs.length : Int) ++ 10 :: rs.flatMap clB)) := hR4
  have H3 := Lib.hid (And.intro (H1.out.1.trans (hx2.trans hE3)) (And.intro hR4 (And.intro (ext_block (hx2.trans hE3) H1.out.2) hDg)))
  have HM := Lib.hid hm
  clear hDg
  clear hx2 hm hown hR2 hE3 hR3 hP3 hCP hR4 hg H1
  go_upto_region 4 with (go_at_call 36; refine HCP.out.mono ?_; rintro e w' ⟨rfl, hw⟩; rw [hw])
  clear hw kc hcv HCP
  obtain ⟨m1, hm1⟩ : ∃ k, k = m - 6 := ⟨_, rfl⟩
  obtain ⟨c1, hc1⟩ : ∃ k, k = cap - 6 := ⟨_, rfl⟩
  rw [← hm1, ← hc1] at H3 ⊢
  clear hm1 hc1 hmc
  generalize w2.alloc (.cells #[.int .u8 112, .int .u8 32, .int .u8 99, .int .u8 110, .int .u8 102, .int .u8 32] 5 (6, 7)) = w3 at H3 ⊢
  have hX3 := BoxV.of_row (heap_alloc_last w3 (.cells #[.slice (some ⟨g, 6, none⟩) m1 c1, .bool false] 71))
  have hE4 : Ext w3 (w3.alloc (.cells #[.slice (some ⟨g, 6, none⟩) m1 c1, .bool false] 71)) := (Ext.refl w3).alloc _
  have hg3 : g < w3.heap.size := by
    have h0 := H3.out.2.1.cells 0 (by rw [← H3.out.2.1.len]; simp; omega)
    exact World.block_lt_of_cell? w3 _ h0
  obtain ⟨X, hX⟩ : ∃ X, X = w3.heap.size := ⟨_, rfl⟩
  rw [← hX] at hX3 hg3
  have H4 := Lib.hid (And.intro (H3.out.1.trans hE4) (And.intro hX3 (And.intro (H3.out.2.1.ext hE4) (And.intro (ext_block hE4 H3.out.2.2.1) (And.intro hX hg3)))))
  clear hX3 hE4 hg3
  go_upto_region 5 with fail
  rw [← hX]
  generalize w3.alloc (.cells #[.slice (some ⟨g, 6, none⟩) m1 c1, .bool false] 71) = w4 at H4 ⊢
  clear hX
  have hN1 := number_any X g 6 m1 c1 [] _ 32 x w4 H4.out.2.1 H4.out.2.2.1 (by simp) (by omega) (by omega) (.inl rfl) (by have := H4.out.2.2.2.2.2; omega)
  have HN1 := Lib.hid hN1
  clear hN1
  go_upto_region 7 with (first | (go_at_call 37; refine HN1.out.mono ?_; rintro e w5 ⟨rfl, hk5⟩; have HK5 := Lib.hid hk5; clear hk5) | (refine wpList_store_last rfl 24 (.tmp 9) (.tmp 35) rfl _ _ _ _ rfl rfl (by simp) (by kernel_rfl) (by kernel_rfl) (by kernel_rfl) ?_))
  have hE6 : Ext w5 (w5.alloc (.cells #[.int .i64 x, .slice none 0 0] 24)) := (Ext.refl w5).alloc _
  have hF6 := BoxV.of_row (heap_alloc_last w5 (.cells #[.int .i64 x, .slice none 0 0] 24))
  obtain ⟨F, hF⟩ : ∃ F, F = w5.heap.size := ⟨_, rfl⟩
  rw [← hF] at hF6 ⊢
  have hPS : ∃ o n c, PS w X F D g x o n c (32 :: (Lib.itoa (rs.length : Int) ++ 10 :: rs.flatMap clB)) (.slice none 0 0) [] [] (.slice none 0 0) [] (w5.alloc (.cells #[.int .i64 x, .slice none 0 0] 24)) := by
    obtain ⟨k1, k2⟩ := HK5.out
    obtain ⟨a1, a2, a3, a4, a5, a6⟩ := H4.out
    have hle : ([] : List UInt8).length + (Lib.itoa x).length ≤ m1 := by rw [← a3.len]; simp
    have hR5 := (a3.drop _ hle).kb k1 (by simp; omega)
    replace hR5 : RdAt w5 g (6 + (([] : List UInt8).length + (Lib.itoa x).length)) (m1 - (([] : List UInt8).length + (Lib.itoa x).length)) (c1 - (([] : List UInt8).length + (Lib.itoa x).length)) (32 :: (Lib.itoa (rs.length : Int) ++ 10 :: rs.flatMap clB)) := by
      have e : (Lib.itoa x ++ 32 :: (Lib.itoa (rs.length : Int) ++ 10 :: rs.flatMap clB)).drop (([] : List UInt8).length + (Lib.itoa x).length) = 32 :: (Lib.itoa (rs.length : Int) ++ 10 :: rs.flatMap clB) := by
        rw [List.length_nil, Nat.zero_add, List.drop_left]
      rwa [e] at hR5
    have hDg := H3.out.2.2.2
    have hDw := HD.out
    have hXw : w.heap.size ≤ X := by rw [a5]; exact H3.out.1.size
    have hX4 := a2.lt
    have h45 := k1.size
    have hXF : X < F := by omega
    have hgW : w.heap.size ≤ g := by omega
    refine ⟨_, _, _, { fr := FR.nil w _ ((k1.ext a1 (fun k hk => by simp at hk; omega)).trans hE6), pd := own_nil _ _ _ _, po := fun b hb => by simp [Value.ownBlock] at hb, rd := k2.ext hE6, at' := hR5.ext hE6, c := hF6, d := ext_block hE6 (k1.heap (by simp; omega) a4), ns := fun k hk => ?_, lg := by rw [World.size_alloc]; omega, xf := by omega, xd := by omega, fd := by omega, gx := by omega, gf := by omega, gd := by omega }⟩
    simp at hk
    rcases hk with rfl | rfl | rfl | rfl <;> omega
  obtain ⟨o6, n6, c6, hPS⟩ := hPS
  have HPS := Lib.hid hPS
  clear hE6 hF6 hPS HN1 HK5
  generalize w5.alloc (.cells #[.int .i64 x, .slice none 0 0] 24) = w6 at HPS ⊢
  clear hF H4 H3 HD
  obtain ⟨n, hn⟩ : ∃ n, n = rs.length := ⟨_, rfl⟩
  have HN := Lib.hid hn
  have hn2 : n ≤ 200000 := by have := szF_len rs; have := H0.out.2.1; omega
  rw [← hn] at HPS
  clear hn
  have HN2 := Lib.hid (HPS.out.number (ws := [32]) (q := (n : Int)) (by simp) (by omega) (by omega) (.inr rfl))
  go_upto_region 8 with (go_at_call 37; refine HN2.out.mono ?_; rintro e w7 ⟨rfl, o7, n7, c7, hPS7⟩; have HPS7 := Lib.hid hPS7; clear hPS7)
  go_wp2
  clear HN2 HPS
  go_loopw [11] (fun i wr => ∃ (j o n' c b1 b2 b3 : Nat) (ba : Option Addr) (vs : List Value), j ≤ n ∧ i = .int .i64 j ∧ Hid (PS w X F D g x o n' c (10 :: (rs.drop j).flatMap clB) (.slice ba b2 b3) vs (rs.take j) (.slice none 0 0) [] wr)) (fun i _ => n - (intOf i).toNat)
  case atStart => exact ⟨0, _, _, _, 0, _, _, _, [], Nat.zero_le _, rfl, by simpa using HPS7⟩
  case round =>
    obtain ⟨j, o, n', c, -, b2, b3, ba, vs, hj, rfl, H⟩ := hrel
    have p1 := H.out.rd.cells 1 _ rfl
    have p2 := H.out.c.cells 0 _ rfl
    have p3 := H.out.c.cells 1 _ rfl
    have hlX := H.out.rd.lt
    by_cases hlt : j < n
    · have hji : (j : Int) < (n : Int) := Int.ofNat_lt.2 hlt
      obtain ⟨r, hr⟩ : ∃ r, rs[j]? = some r := ⟨_, List.getElem?_eq_getElem (by have := HN.out; omega)⟩
      have HR := Lib.hid hr
      obtain ⟨L, hL⟩ : ∃ L, L = r.length := ⟨_, rfl⟩
      have HL := Lib.hid hL
      have hL2 : L ≤ 200000 := by have := szF_mem (List.mem_of_getElem? hr); have := H0.out.2.1; omega
      have HB : Hid (∀ l ∈ r, -1000000 ≤ l ∧ l ≤ 1000000) := Lib.hid fun l hl => by have := H0.out.2.2.2 r (List.mem_of_getElem? hr) l hl; omega
      obtain ⟨tail, htl⟩ : ∃ t, t = (rs.drop (j + 1)).flatMap clB := ⟨_, rfl⟩
      have HTL := Lib.hid htl
      have hbs : (rs.drop j).flatMap clB = rdB r tail 0 := by
        obtain ⟨hjl, hjr⟩ := List.getElem?_eq_some_iff.1 hr
        rw [List.drop_eq_getElem_cons hjl, hjr, List.flatMap_cons, ← htl, clB_rd]
      rw [hbs] at H
      have HN0 := Lib.hid (H.out.lit (Nat.zero_le _) HB.out (.inr rfl))
      clear hr hL htl hbs
      go_upto_region 13 with (go_at_call 37; refine HN0.out.mono ?_; rintro e w8 ⟨v8, rfl, hv8, o8, n8, c8, hP8⟩; have HP8 := Lib.hid (And.intro hv8 hP8); clear hv8 hP8 p1 p2 p3 hlX)
      go_loopg [12, 13] L (fun gk s12 s13 wr => ∃ (k : Nat) (v : Int) (o n' c d2 d3 : Nat) (da : Option Addr), k + gk = L ∧ s12 = .slice da d2 d3 ∧ s13 = .int .i64 v ∧ Hid (v = r.getD k 0) ∧ Hid (PS w X F D g x o n' c (nxB r tail k) (.slice ba b2 b3) vs (rs.take j) (.slice da d2 d3) (r.take k) wr))
      case atStart => exact ⟨0, v8, _, _, _, _, _, _, by omega, rfl, rfl, Lib.hid HP8.out.1, Lib.hid HP8.out.2⟩
      case round =>
        obtain ⟨k, v, o, n', c, d2, d3, da, hkg, rfl, rfl, HV, H⟩ := hrel
        have p1 := H.out.rd.cells 1 _ rfl
        have q3 := H.out.c.cells 1 _ rfl
        have hlX := H.out.rd.lt
        have hlF := H.out.c.lt
        have hwr := H.out.fr.ext.size
        cases gk with
        | zero =>
          obtain rfl : k = L := by omega
          have hv : v = 0 := by rw [HV.out, HL.out]; simp [List.getD]
          subst hv
          have HE := H.out
          rw [show r.take k = r from List.take_of_length_le (by have := HL.out; omega)] at HE
          have hnx : nxB r tail k = 10 :: tail := by rw [HL.out, nxB_end]
          rw [hnx] at HE
          have H9 := Lib.hid HE
          have hvl : vs.length ≤ 200000 := by rw [HE.fr.len]; simp; omega
          clear HE hnx
          go_wp2_with (at_builtin; (refine wpList_append_slc _ rfl (.tmp 68) (.tmp 70) 22 rfl w.heap.size 36 (.slice none 0 0) 1 24 Tryd.underlying22 infoInts rfl (by decide) (.slice ba b2 b3) vs.length vs rfl (ownsRow_ext H9.out.fr.top (by repeat first | exact Ext.refl _ | assumption | refine Ext.drew ?_ | refine Ext.drewN ?_ _ | refine Ext.extBy ?_ _ | refine Ext.alloc ?_ _ | refine Ext.setCell ?_ (by simp; try omega) _ | (refine Ext.trans ?_ (by assumption)))) _ 1 [.slice da d2 d3] rfl (SlC.fresh _ #[.slice da d2 d3] _ 1 _ (by simp) (by decide)) rfl (by simp [Value.oneCell']) (by unfold maxLen; omega) (by omega) (by simp; omega) ?_; intro v9 w9 hown9 hg9 hat9; obtain ⟨x9, y9, z9, rfl⟩ := own_slice3 hown9; have HP := Lib.hid ((H9.out.next (by repeat first | exact Ext.refl _ | assumption | refine Ext.drew ?_ | refine Ext.drewN ?_ _ | refine Ext.extBy ?_ _ | refine Ext.alloc ?_ _ | refine Ext.setCell ?_ (by simp; try omega) _ | (refine Ext.trans ?_ (by assumption)))).push hg9 hown9 hat9); have hc1 := HP.out.1.cells 1 _ rfl; have hcf := HP.out.1.fz 1; clear hown9 hg9 hat9))
          refine ⟨⟨j + 1, o, n', c, 0, y9, z9, x9, vs ++ [.slice da d2 d3], by omega, by go_num, ?_⟩, by simp [intOf]; omega⟩
          rw [List.take_add_one, HR.out, ← HTL.out]
          exact Lib.hid HP.out.2
        | succ gk =>
          have hkL : k < r.length := by have := HL.out; omega
          have hvr : r[k]? = some v := by rw [HV.out, Lib.getD_lt_sl r k 0 hkL]; exact List.getElem?_eq_getElem hkL
          have hv0 : v ≠ 0 := (H0.out.2.2.2 r (List.mem_of_getElem? HR.out) v (List.mem_of_getElem? hvr)).1
          have hvz : (v == 0) = false := by simpa using hv0
          have hkl : (r.take k).length ≤ 200000 := by simp; omega
          have HVR := Lib.hid (And.intro hvr hkL)
          clear hvr hkL
          go_wp2_with (first | (go_at_call 37; refine (PS.lit (k := k + 1) (by rw [← nxB_lt HVR.out.2]; exact HP.out) HVR.out.2 HB.out (.inl rfl)).mono ?_; rintro e w10 ⟨v10, rfl, hv10, o10, n10, c10, hP10⟩; have HP10 := Lib.hid (And.intro hv10 hP10); clear hv10 hP10) | (at_builtin; (refine wpList_append_slc _ rfl (.tmp 63) (.tmp 65) 36 rfl w.heap.size 3 (.int .i64 0) 1 8 Tryd.underlying36 infoInt rfl (by decide) (.slice da d2 d3) (r.take k).length (i64s (r.take k)) rfl (ownsRow_ext H.out.pd (by repeat first | exact Ext.refl _ | assumption | refine Ext.drew ?_ | refine Ext.drewN ?_ _ | refine Ext.extBy ?_ _ | refine Ext.alloc ?_ _ | refine Ext.setCell ?_ (by simp; try omega) _ | (refine Ext.trans ?_ (by assumption)))) _ 1 [.int .i64 v] rfl (SlC.fresh _ #[.int .i64 v] _ 1 _ (by simp) (by decide)) rfl (by simp [Value.oneCell']) (by unfold maxLen; omega) (by omega) (by simp; omega) ?_; intro v9 w9 hown9 hg9 hat9; obtain ⟨x9, y9, z9, rfl⟩ := own_slice3 hown9; have HP := Lib.hid ((H.out.next (by repeat first | exact Ext.refl _ | assumption | refine Ext.drew ?_ | refine Ext.drewN ?_ _ | refine Ext.extBy ?_ _ | refine Ext.alloc ?_ _ | refine Ext.setCell ?_ (by simp; try omega) _ | (refine Ext.trans ?_ (by assumption)))).add v hg9 hown9 hat9); clear hown9 hg9 hat9)))
          go_roundg gk
          case measure => omega
          case rel =>
            refine ⟨k + 1, v10, o10, n10, c10, y9, z9, x9, by omega, rfl, rfl, Lib.hid HP10.out.1, ?_⟩
            rw [List.take_add_one, HVR.out.1]
            exact Lib.hid HP10.out.2
    · have hji : ¬ (j : Int) < (n : Int) := fun e => hlt (Int.ofNat_lt.1 e)
      have HE := H.out
      rw [show rs.take j = rs from List.take_of_length_le (by have := HN.out; omega)] at HE
      have htx : Calls Tryd.prog 21 #[.agg #[.int .i64 x, .slice ba b2 b3]] wr fun e w' => e = .returned (.string tx) ∧ Ext wr w' := by
        have h0 := textT_any x (.slice ba b2 b3) vs rs wr hx (by omega) HE.fr.rows H0.out.2.1 (tab_ext H0.out.2.2.1 HE.fr.ext)
        rw [if_pos H0.out.1, ← HT.out.1, ← HT.out.2.1] at h0
        exact h0
      have HTX := Lib.hid htx
      have H9 := Lib.hid HE
      clear htx HE
      go_wp2_with (first | (go_at_call 21; refine HTX.out.mono ?_; rintro e w11 ⟨rfl, hE11⟩; have c0 := hE11.cell p2; have c1' := hE11.cell p3; have H11 := Lib.hid (H9.out.next hE11); have hlD := H11.out.lts D (by simp); clear hE11) | (refine wpList_store_row rfl 24 (.tmp 2) (.tmp 84) rfl D #[.int .i64 x, .slice ba b2 b3] rfl rfl 24 _ H11.out.d rfl rfl (by simp [Value.oneCell']) ?_))
      refine ret_row3 rfl D 24 #[.int .i64 x, .slice ba b2 b3] _ rfl (setRow_heap _ _ _ _ _ _ H11.out.d) Tryd.underlying24 rfl (by kernel_rfl) rfl ?_
      rw [HQ.out]
      have hkD := kb_setRow w11 D #[.int .i64 x, .slice ba b2 b3]
      refine ⟨_, vs, rfl, (H11.out.fr.kb hkD (fun k hk => by simp at hk; simp [hk]) H11.out.nsp).rows, hkD.ext H11.out.fr.ext (fun k hk => H11.out.ns k (by simp at hk; simp [hk]))⟩
end Go.Proofs.YtlikmdeplpldlaaDoor

/-
  The reader's walk over one numeral.
  Conditions: the bytes are a numeral of at most eight bytes between blanks and newlines.
-/
import Derived.Lib.AtoiErrMem
import Derived.Laws.IdiomStrings
import Derived.Test.YtlikmdeplpldlaaDoorNumP
import Derived.Test.YtlikmdeplpldlaaDoorShC
import Derived.Test.YtlikmdeplpldlaaDoorGen
namespace Go.Proofs.YtlikmdeplpldlaaDoor
open Go.RowKit
set_option linter.unusedSimpArgs false
set_option linter.unusedVariables false
set_option maxRecDepth 100000

/-- Bytes as a slice shows them. -/
structure RdAt (w : World) (g o n c : Nat) (bs : List UInt8) : Prop where
  len : bs.length = n
  le : n ≤ c
  max : c ≤ maxLen
  asc : ∀ b ∈ bs, b.toNat < 128
  cells : ∀ i, i < n → w.cell? ⟨g, o + i, none⟩ = some (.int .u8 (bs.getD i 0).toNat)
section
variable {w w' : World} {g o n c : Nat} {bs : List UInt8}
theorem RdAt.drop (h : RdAt w g o n c bs) (k : Nat) (hk : k ≤ n) : RdAt w g (o + k) (n - k) (c - k) (bs.drop k) := by
  refine ⟨by rw [List.length_drop, h.len], by have := h.le; omega, by have := h.max; omega, fun b hb => h.asc b (List.mem_of_mem_drop hb), fun i hi => ?_⟩
  have h1 := h.cells (k + i) (by omega)
  rw [show o + (k + i) = o + k + i by omega] at h1
  rw [h1]
  simp [List.getD, List.getElem?_drop]
theorem RdAt.kb {S : List Nat} (h : RdAt w g o n c bs) (hk : Kb S w w') (hg : g ∉ S) : RdAt w' g o n c bs :=
  ⟨h.len, h.le, h.max, h.asc, fun i hi => hk.cell hg (h.cells i hi)⟩
theorem RdAt.ext (h : RdAt w g o n c bs) (hk : Ext w w') : RdAt w' g o n c bs :=
  ⟨h.len, h.le, h.max, h.asc, fun i hi => hk.cell (h.cells i hi)⟩
theorem RdAt.asc2 (h : RdAt w g o n c bs) (i : Nat) (hi : i < n) : (bs.getD i 0).toNat < 128 := by
  rw [Lib.getD_lt_sl bs i 0 (by rw [h.len]; exact hi)]
  exact h.asc _ (List.getElem_mem _)
theorem RdAt.at (h : RdAt w g o n c bs) : Lib.BytesAt w (some ⟨g, o, none⟩) n bs := fun _ => ⟨g, o, rfl, h.cells⟩
theorem RdAt.str (h : RdAt w g o n c bs) (l r : List UInt8) (e : bs = l ++ r) : ∀ j (hj : j < l.length), w.cell? ((⟨g, o, none⟩ : Addr).add j) = some (.int .u8 (l[j].toNat : Int)) := fun j hj => by
  have hn : j < n := by rw [← h.len, e, List.length_append]; omega
  rw [Lib.add_plain, h.cells j hn, e]
  simp [List.getD, List.getElem?_append_left hj, List.getElem?_eq_getElem hj]
end
theorem trimL (g o n c : Nat) (bs : List UInt8) (w : World) (hR : RdAt w g o n c bs) :
    Calls Tryd.prog 42 #[.slice (some ⟨g, o, none⟩) n c, .string ⟨#[32, 10]⟩] w fun e w' => e = .returned (Lib.leftV (some ⟨g, o, none⟩) n c (n - (Lib.trimLeftS bs [32, 10]).length)) ∧ Ext w w' :=
  Any.bytes_TrimLeft_ascii { Tryd.laysTL with } (zero_of_info infoSet).1 (zero_of_info infoSet).2 (some ⟨g, o, none⟩) n c bs ⟨#[32, 10]⟩ w hR.len hR.le (by have := hR.max; unfold maxLen at this; omega) hR.at (by decide) (by
    intro j b hb
    match j with
    | 0 => simp at hb; subst hb; decide
    | 1 => simp at hb; subst hb; decide
    | j + 2 => simp at hb)
theorem leftV_at (g o n c k : Nat) (h : k < n) (hc : n ≤ c) : Lib.leftV (some ⟨g, o, none⟩) n c k = .slice (some ⟨g, o + k, none⟩) (n - k) (c - k) := by
  unfold Lib.leftV Lib.fromV
  rw [if_neg (by omega), if_neg (by omega), Option.map_some, Lib.add_plain]
set_option maxHeartbeats 8000000 in
set_option maxRecDepth 100000 in
theorem number_any (X g o n c : Nat) (ws rest : List UInt8) (sep : UInt8) (q : Int) (w : World) (hb : BoxV X [.slice (some ⟨g, o, none⟩) n c, .bool false] w) (hR : RdAt w g o n c (ws ++ (Lib.itoa q ++ sep :: rest))) (hw : ∀ b ∈ ws, b = 32 ∨ b = 10) (h0 : -10000000 < q) (h1 : q < 10000000) (hs : sep = 32 ∨ sep = 10) (hg : g ≠ X) :
    Calls Tryd.prog 37 #[.pointer (some ⟨X, 0, none⟩)] w fun e w' => e = .returned (.int .i64 q) ∧ Kb [X] w w' ∧ BoxV X [.slice (some ⟨g, o + (ws.length + (Lib.itoa q).length), none⟩) (n - (ws.length + (Lib.itoa q).length)) (c - (ws.length + (Lib.itoa q).length)), .bool false] w' := by
  obtain ⟨l, hl⟩ : ∃ l, l = (Lib.itoa q).length := ⟨_, rfl⟩
  obtain ⟨k, hk⟩ : ∃ k, k = ws.length := ⟨_, rfl⟩
  have hl8 : l ≤ 8 := by rw [hl]; exact itoa_short q h0 h1
  have hl1 : 0 < l := by rw [hl]; exact List.length_pos_iff.2 (itoa_ne q)
  have hnl : n = k + (l + 1 + rest.length) := by rw [← hR.len]; simp; omega
  have hTL := trimL g o n c _ w hR
  rw [trim_num ws (sep :: rest) q hw, show n - (Lib.itoa q ++ sep :: rest).length = k by simp; omega, leftV_at g o n c k (by omega) hR.le] at hTL
  have hR1 := hR.drop k (by omega)
  obtain ⟨n1, hn1⟩ : ∃ n1, n1 = n - k := ⟨_, rfl⟩
  obtain ⟨c1, hc1⟩ : ∃ c1, c1 = c - k := ⟨_, rfl⟩
  obtain ⟨o1, ho1⟩ : ∃ o1, o1 = o + k := ⟨_, rfl⟩
  have eN : n - (k + l) = n1 - l ∧ c - (k + l) = c1 - l ∧ o + (k + l) = o1 + l := by omega
  rw [← hn1, ← hc1, ← ho1] at hTL hR1
  have HTL := Lib.hid hTL
  have HR1 := Lib.hid hR1
  have eR1 : (ws ++ (Lib.itoa q ++ sep :: rest)).drop k = Lib.itoa q ++ sep :: rest := by rw [hk, List.drop_left]
  rw [eR1] at HR1
  have HB := Lib.hid hb
  have HG := Lib.hid (And.intro hg (And.intro h0 h1))
  have HL := Lib.hid (And.intro hl hk)
  have HS := Lib.hid hs
  have p0 := hb.cells 0 _ rfl
  have p1 := hb.cells 1 _ rfl
  have hlt := hb.lt
  have z0 := hb.fz 0
  have z1 := hb.fz 1
  have hnc := hR.le
  rw [← hl, ← hk, eN.1, eN.2.1, eN.2.2]
  have hl1n : l + 1 ≤ n1 := by omega
  clear hnl hR1 hn1 hc1 ho1 eN
  clear hTL hb hR hg eR1 hl hk hw h0 h1 hs
  go_enter Tryd.func37, Tryd.ntmps37
  go_upto_region 2 with (go_at_call 42; refine HTL.out.mono ?_; rintro e w1 ⟨rfl, hE1⟩; have r0 := hE1.cell p0; have r1 := hE1.cell p1; have f0 := (HB.out.ext hE1).fz 0; have hl1' := Nat.lt_of_lt_of_le hlt hE1.size; have HE1 := Lib.hid hE1; clear p0 p1 hE1 hlt z0 z1)
  have hB2 := (HB.out.ext HE1.out).put 0 (.slice (some ⟨g, o1, none⟩) n1 c1)
  have hK2 : Kb [X] w (w1.setCell ⟨X, 0, none⟩ (.slice (some ⟨g, o1, none⟩) n1 c1)) := (Kb.of_ext HE1.out).trans (Kb.set _ X 0 (by simp) _)
  have hR2 := (HR1.out.ext HE1.out).kb (Kb.set (S := [X]) w1 X 0 (by simp) (.slice (some ⟨g, o1, none⟩) n1 c1)) (by simp; exact HG.out.1)
  have hn1c : n1 ≤ c1 := hR2.le
  have hmx : (c1 : Int) ≤ 9223372036854775807 := by have := hR2.max; unfold maxLen at this; omega
  clear hnc r0 r1 f0 hl1' HE1 HTL HR1 HB
  generalize w1.setCell ⟨X, 0, none⟩ (.slice (some ⟨g, o1, none⟩) n1 c1) = w2 at hB2 hK2 hR2 ⊢
  have hIA := indexAnyB g o1 n1 c1 _ w2 hR2.len (by omega) hn1c hR2.max hR2.cells hR2.asc2
  rw [index_num rest q sep HS.out, ← HL.out.1] at hIA
  have HIA := Lib.hid hIA
  have p0 := hB2.cells 0 _ rfl
  have hlt := hB2.lt
  have H2 := Lib.hid (And.intro hB2 (And.intro hK2 hR2))
  clear hIA hB2 hK2 hR2
  go_upto_region 3 with (go_at_call 43; refine HIA.out.mono ?_; rintro e w3 ⟨rfl, hE3⟩; have HE3 := Lib.hid hE3; clear p0 hE3 hlt)
  have hB3 := H2.out.1.ext HE3.out
  have hR3 := H2.out.2.2.ext HE3.out
  have hK3 := H2.out.2.1.trans (Kb.of_ext HE3.out)
  have p0 := hB3.cells 0 _ rfl
  have p1 := hB3.cells 1 _ rfl
  have z1 := hB3.fz 1
  have z0 := hB3.fz 0
  have hlt := hB3.lt
  have hl0 : ¬ (l : Int) < 0 := by omega
  have hl9 : ¬ (8 : Int) < (l : Int) := by omega
  have hcv := run_convert_bytes_back (P := Tryd.prog) w3 64 9 5 ⟨g, o1, none⟩ c1 (Lib.itoa q) Tryd.underlying64 Tryd.underlying5 Tryd.underlying9 (hR3.str (Lib.itoa q) (sep :: rest) rfl)
  rw [← HL.out.1] at hcv
  obtain ⟨tx, htx⟩ : ∃ t : ByteArray, t = ⟨(Lib.itoa q).toArray⟩ := ⟨_, rfl⟩
  have HAT : Hid (Calls Tryd.prog 44 #[.string tx] w3 fun e w' => e = .returned (.tuple #[.int .i64 q, .nilIface]) ∧ Ext w3 w') := Lib.hid (by
    rw [htx]
    refine (Any.strconv_Atoi_ok { Tryd.laysAT with } ⟨(Lib.itoa q).toArray⟩ (by have := HL.out.1; simp only [ByteArray.size, List.size_toArray]; omega) q (atoi_itoa q (by have := HG.out; omega) (by have := HG.out; omega)) w3).mono ?_
    rintro e w' ⟨rfl, hw⟩
    refine ⟨rfl, ?_⟩
    rcases hw with rfl | ⟨t, rfl⟩
    · exact Ext.refl _
    · exact Lib.bytesWorld_below _ _ _)
  rw [← htx] at hcv
  have H3 := Lib.hid (And.intro hB3 (And.intro hK3 hR3))
  clear hB3 hR3 hK3 htx H2 HIA HE3
  go_upto_region 6 with (go_at_call 44; refine HAT.out.mono ?_; rintro e w4 ⟨rfl, hE4⟩; have HE4 := Lib.hid hE4; clear p0 p1 z0 z1 hlt hE4)
  have hB4 := H3.out.1.ext HE4.out
  have hK4 := H3.out.2.1.trans (Kb.of_ext HE4.out)
  have p0 := hB4.cells 0 _ rfl
  have p1 := hB4.cells 1 _ rfl
  have z1 := hB4.fz 1
  have z0 := hB4.fz 0
  have hlt := hB4.lt
  have hB5 := (hB4.put 1 (.bool false)).put 0 (.slice (some ⟨g, o1 + l, none⟩) (n1 - l) (c1 - l))
  have hK5 := (hK4.trans (Kb.set w4 X 1 (by simp) (.bool false))).trans (Kb.set (S := [X]) (w4.setCell ⟨X, 1, none⟩ (.bool false)) X 0 (by simp) (.slice (some ⟨g, o1 + l, none⟩) (n1 - l) (c1 - l)))
  have H5 := Lib.hid (And.intro hB5 hK5)
  clear hB4 hK4 hB5 hK5 H3 HAT HE4 hcv
  go_wp2
  go_ret
  rw [show decide ((8 : Int) < (l : Int)) = false from decide_eq_false (by omega)]
  exact ⟨rfl, H5.out.2, H5.out.1⟩
end Go.Proofs.YtlikmdeplpldlaaDoor

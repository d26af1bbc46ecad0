/-
  The reference's walk that tells a formula's text.
  Conditions: the formula lies in memory, and is small.
-/
import Derived.Test.YtlikmdeplpldlaaDoorRowM
import Derived.Test.YtlikmdeplpldlaaDoorCnfX
import Derived.Test.YtlikmdeplpldlaaDoorCnfB
namespace Go.Proofs.YtlikmdeplpldlaaDoor
open Go.RowKit
set_option linter.unusedSimpArgs false
set_option linter.unusedVariables false
set_option maxRecDepth 100000

/-- What the walk of the reference's Text keeps. -/
structure RT (W : World) (X : Nat) (x : Int) (cv : Value) (g n cap : Nat) (bs : List UInt8) (w : World) : Prop where
  ext : Ext W w
  box : BoxV X [.int .i64 x, cv] w
  own : OwnM w W.heap.size g n cap bs
  ne : g ≠ X
section
variable {W w w' : World} {X : Nat} {x : Int} {cv : Value} {g g' n m cap cap' : Nat} {bs cs : List UInt8}
theorem RT.next (h : RT W X x cv g n cap bs w) (hx : Ext w w') : RT W X x cv g n cap bs w' :=
  ⟨h.ext.trans hx, h.box.ext hx, h.own.ext hx, h.ne⟩
theorem RT.put (h : RT W X x cv g n cap bs w) (hk : OwnM w' W.heap.size g' m cap' cs ∧ Kb [g] w w' ∧ (g' = g ∨ w.heap.size ≤ g')) : RT W X x cv g' m cap' cs w' := by
  obtain ⟨h1, h2, h3⟩ := hk
  refine ⟨h2.ext h.ext (fun k hk => by simp at hk; rw [hk]; exact h.own.base), h.box.kb h2 (by simp; exact fun e => h.ne e.symm), h1, ?_⟩
  rcases h3 with e | e
  · rw [e]; exact h.ne
  · have := h.box.lt; omega
end
theorem conv_bytes {P : Program} (w : World) (src dst e : TypeId) (l : List UInt8) (base : Nat) (hs : P.underlying src = some .string) (hd : P.underlying dst = some (.slice e)) (he : P.underlying e = some (.int .u8)) (hb : base ≤ w.heap.size) (hl : l.length ≤ maxLen) :
    ∃ cap w', (convert src dst (.string ⟨l.toArray⟩)).run P w = .ok (.slice (some ⟨w.heap.size, 0, none⟩) l.length cap) w' ∧ OwnM w' base w.heap.size l.length cap l ∧ Ext w w' := by
  have hsz : (⟨l.toArray⟩ : ByteArray).size = l.length := by simp [ByteArray.size]
  have hr := run_bytes_of_string (P := P) w src dst e (⟨l.toArray⟩ : ByteArray) hs hd he
  rw [hsz] at hr
  have hge := grownCap_ge w l.length 0 e
  have hcm : grownCap w l.length 0 e ≤ maxLen := grownCap_le_maxLen w l.length 0 e hl
  have hbs : (bytesRow (⟨l.toArray⟩ : ByteArray) (grownCap w l.length 0 e)).size = grownCap w l.length 0 e := by
    unfold bytesRow
    simp only [Array.size_append, Array.size_map, Array.size_replicate, hsz, List.size_toArray]
    omega
  refine ⟨_, _, hr, OwnM.of_block hb (heap_alloc_new w.drew _) (.inr (Nat.le_refl _)) (by rw [hbs]; exact Nat.le_refl _) hcm rfl hge (fun j u hu => ?_), (Ext.refl w).drew.alloc _⟩
  have hj := (List.getElem?_eq_some_iff.1 hu).1
  rw [Lib.byteCells_length] at hj
  unfold bytesRow
  rw [Array.getElem?_append_left (by simp; exact hj)]
  simpa [Lib.byteCells] using hu

theorem clsB_le : ∀ {rs : List (List Int)}, (∀ c ∈ rs, ∀ l ∈ c, -1000000 ≤ l ∧ l ≤ 1000000) → (rs.flatMap clB).length ≤ 22 * szF rs
  | [], _ => by simp
  | c :: rs, h => by
    have h1 := clsB_le (rs := rs) fun x hx => h x (by simp [hx])
    have h2 := litsB_le (h c (by simp))
    rw [List.flatMap_cons, List.length_append, szF]
    have h3 : (clB c).length = (c.flatMap litB).length + 2 := by unfold clB; simp
    omega
set_option maxHeartbeats 4000000 in
theorem textR_any (x : Int) (cv : Value) (vs : List Value) (rs : List (List Int)) (w : World) (hx : x ≤ 200000) (hx2 : -9223372036854775808 ≤ x) (h : RowsIn w cv vs rs) (hs : szF rs ≤ 200000) :
    Calls Tryd.prog 22 #[.agg #[.int .i64 x, cv]] w fun e w' => e = .returned (.string ⟨(if chkF x rs = 0 then textF x rs else []).toArray⟩) ∧ Ext w w' := by
  obtain ⟨R, hR⟩ : ∃ R, R = if chkF x rs = 0 then textF x rs else [] := ⟨_, rfl⟩
  rw [← hR]
  have HRR := Lib.hid hR
  have hlen := szF_len rs
  obtain ⟨n, hn⟩ : ∃ n, n = rs.length := ⟨_, rfl⟩
  have HN := Lib.hid hn
  have HR := Lib.hid h
  obtain ⟨a, cap, rfl, -, -, -⟩ := id h.top
  have hn2 : n ≤ 200000 := by omega
  have HS := Lib.hid (And.intro hs hx2)
  rw [← hn]
  clear hR h hlen hs hn
  go_enter Tryd.func22, Tryd.ntmps22
  go_upto_region 1 with fail
  have hbX := BoxV.of_row (heap_alloc_last w (.cells #[.int .i64 x, .slice a n cap] 24))
  have hE : Ext w (w.alloc (.cells #[.int .i64 x, .slice a n cap] 24)) := (Ext.refl w).alloc _
  have HRw : Hid (RowsIn (w.alloc (.cells #[.int .i64 x, .slice a n cap] 24)) (.slice a n cap) vs rs) := Lib.hid (RowsIn.ext (HN.out ▸ HR.out) hE)
  generalize w.alloc (.cells #[.int .i64 x, .slice a n cap] 24) = w1 at hbX hE HRw ⊢
  obtain ⟨X, hX⟩ : ∃ X, X = w.heap.size := ⟨_, rfl⟩
  rw [← hX] at hbX ⊢
  have HE := Lib.hid (And.intro hE (And.intro hbX hX))
  have p0 := hbX.cells 0 _ rfl
  have p1 := hbX.cells 1 _ rfl
  have hl1 := hbX.lt
  clear hbX hE hX
  rcases chkF_or x rs with hc | ⟨hc, hx0, hok⟩
  · have HC := Lib.hid hc
    have hRf : R = [] := by rw [HRR.out, hc]; rfl
    subst hRf
    clear hc
    go_wp2_with (go_at_call 12; refine (checkFR_any x _ vs rs _ hx HS.out.2 HRw.out HS.out.1).mono ?_; rintro e w' ⟨rfl, hE'⟩; rw [HC.out]; (first | (with_reducible obtain ⟨t2, rfl⟩ := Ext.tok2 hE') | (obtain ⟨t2, rfl⟩ := Ext.tok hE')))
    go_ret
    exact ⟨rfl, HE.out.1.trans (Ext.by w1 t2)⟩
  · have HC := Lib.hid hc
    have HOK := Lib.hid hok
    clear hc hok
    go_upto_region 3 with (go_at_call 12; refine (checkFR_any x _ vs rs _ hx HS.out.2 HRw.out HS.out.1).mono ?_; rintro e w' ⟨rfl, hE'⟩; rw [HC.out]; (first | (with_reducible obtain ⟨t2, rfl⟩ := Ext.tok2 hE') | (obtain ⟨t2, rfl⟩ := Ext.tok hE')))
    have hT := Ext.by w1 t2
    have HE2 := Lib.hid (And.intro (HE.out.1.trans hT) (And.intro (HE.out.2.1.ext hT) HE.out.2.2))
    have r0 := hT.cell p0
    have r1 := hT.cell p1
    have hl2 := Nat.lt_of_lt_of_le hl1 hT.size
    clear p0 p1 hl1 HE HRw hE'
    generalize w1.extBy t2 = w2 at hT HE2 r0 r1 hl2 ⊢
    clear hT
    obtain ⟨tx, htx⟩ : ∃ t : ByteArray, t = ⟨(Lib.itoa x).toArray⟩ := ⟨_, rfl⟩
    obtain ⟨tn, htn⟩ : ∃ t : ByteArray, t = ⟨(Lib.itoa (n : Int)).toArray⟩ := ⟨_, rfl⟩
    have hts : tx.size ≤ 1000 := by
      rw [htx]; have := Lib.itoa_length_le x (by omega) (by omega); simp [ByteArray.size]; omega
    have htt : tn.size ≤ 1000 := by
      rw [htn]; have := Lib.itoa_length_le (n : Int) (by omega) (by omega); simp [ByteArray.size]; omega
    have HFX : Hid (∀ k, Calls Tryd.prog 35 #[.int .i64 x] (w2.drewN k) fun e w' => e = .returned (.string tx) ∧ w2.drewN k = w') := Lib.hid fun k => by rw [htx]; exact numR_any x _ (by omega) (by omega)
    have HFN : Hid (∀ k, Calls Tryd.prog 35 #[.int .i64 (n : Int)] (w2.drewN k) fun e w' => e = .returned (.string tn) ∧ w2.drewN k = w') := Lib.hid fun k => by rw [htn]; exact numR_any n _ (by omega) (by omega)
    have HT := Lib.hid (And.intro htx htn)
    clear htx htn
    (refine region_drew_tail 11 (by kernel_rfl) (by kernel_rfl) ?_; simp only [List.take_succ_cons, List.take_zero, List.drop_succ_cons, List.drop_zero]; (repeat (go_big_quiet_step (first | (with_reducible exact in_drew (HFX.out _)) | (with_reducible exact in_drew (HFN.out _))))); refine wpQuiet_nil ?_; rintro _ ⟨nq, rfl⟩)
    have hst : (⟨#[112, 32, 99, 110, 102, 32]⟩ : ByteArray) ++ tx ++ ⟨#[32]⟩ ++ tn ++ ⟨#[10]⟩ = ⟨(headB x n).toArray⟩ := by
      rw [HT.out.1, HT.out.2, str_app, str_app, str_app, str_app]; rfl
    rw [hst]
    have hhd : (headB x n).length ≤ 50 := headB_le (by omega) (by omega) (by omega)
    have hT := (Ext.refl w2).drewN nq
    have HE3 := Lib.hid (And.intro (HE2.out.1.trans hT) (And.intro (HE2.out.2.1.ext hT) HE2.out.2.2))
    clear hst r0 r1 hl2 HE2 HFX HFN HT hts htt
    generalize w2.drewN nq = w3 at hT HE3 ⊢
    clear hT
    obtain ⟨capb, w4, hcv, hown, hx4⟩ := conv_bytes (P := Tryd.prog) w3 9 64 5 (headB x n) w.heap.size Tryd.underlying9 Tryd.underlying64 Tryd.underlying5 HE3.out.1.size (by unfold maxLen; omega)
    obtain ⟨hb, hhb⟩ : ∃ l, l = headB x n := ⟨_, rfl⟩
    have HHB := Lib.hid hhb
    rw [← hhb] at hcv hown hhd ⊢
    obtain ⟨tx, htx⟩ : ∃ t : ByteArray, t = ⟨hb.toArray⟩ := ⟨_, rfl⟩
    rw [← htx] at hcv ⊢
    have HRT : Hid (RT w X x (.slice a n cap) w3.heap.size hb.length capb hb w4) := Lib.hid ⟨HE3.out.1.trans hx4, HE3.out.2.1.ext hx4, hown, by have := HE3.out.2.1.lt; omega⟩
    clear hhb htx hx4 hown
    go_upto_region 4 with fail
    obtain ⟨i0, hi, hz0, hz1, hz2⟩ := info_parts infoByte
    have HLC : Hid (∀ c ∈ rs, ∀ l ∈ c, -1000000 ≤ l ∧ l ≤ 1000000) := Lib.hid fun c hc q hq => by
      have := List.all_eq_true.1 (List.all_eq_true.1 HOK.out c hc) q hq
      unfold litOk at this
      simp at this
      omega
    go_wp2
    go_loopw [3, 4] (fun b i wr => ∃ (j : Nat) (g m c : Nat), j ≤ n ∧ i = .int .i64 j ∧ b = .slice (some ⟨g, 0, none⟩) m c ∧ Hid (RT w X x (.slice a n cap) g m c (hb ++ (rs.take j).flatMap clB) wr)) (fun _ i _ => n - (intOf i).toNat)
    case atStart => exact ⟨0, _, _, _, Nat.zero_le _, rfl, rfl, by rw [List.take_zero, List.flatMap_nil, List.append_nil]; exact HRT⟩
    case round =>
      obtain ⟨j, g, m, c, hj, rfl, rfl, H⟩ := hrel
      have q1 := H.out.box.cells 1 _ rfl
      have hm : m ≤ 5000000 := by
        rw [← H.out.own.len, List.length_append]
        have h1 := clsB_le (rs := rs.take j) fun c hc => HLC.out c (List.mem_of_mem_take hc)
        have h2 := szF_le rs j
        have := HS.out.1
        omega
      by_cases hlt : j < n
      · have hji : (j : Int) < (n : Int) := Int.ofNat_lt.2 hlt
        obtain ⟨y, r, hy, hr, hs⟩ := (HN.out ▸ HR.out : RowsIn w (.slice a n cap) vs rs).at (j := j) (by have := HN.out; omega)
        obtain ⟨a', cap', ea, -, -, hvc⟩ := (HN.out ▸ HR.out : RowsIn w (.slice a n cap) vs rs).top
        simp only [Value.slice.injEq] at ea
        rw [← ea.1] at hvc
        obtain ⟨b, o, rfl, f0⟩ := hvc j y hy
        obtain ⟨ya, ycap, rfl, -, -, hrc⟩ := hs
        have HRC := Lib.hid hrc
        have HRM := Lib.hid hr
        obtain ⟨L, hL⟩ : ∃ L, L = r.length := ⟨_, rfl⟩
        have HL := Lib.hid hL
        have hL2 : L ≤ 200000 := by have := szF_mem (List.mem_of_getElem? hr); have := HS.out.1; omega
        rw [← hL] at f0
        have F0 := Lib.hid f0
        have q2 := H.out.ext.cell f0
        obtain ⟨bs0, hbs⟩ : ∃ l, l = hb ++ (rs.take j).flatMap clB := ⟨_, rfl⟩
        have HBS := Lib.hid hbs
        rw [← hbs] at H
        clear hy hr hrc hL ea hvc f0 hbs
        go_wp2
        go_loopw [3, 5] (fun b5 i5 wr => ∃ (k : Nat) (g m c : Nat), k ≤ L ∧ i5 = .int .i64 k ∧ b5 = .slice (some ⟨g, 0, none⟩) m c ∧ Hid (RT w X x (.slice (some ⟨b, o, none⟩) n cap) g m c (bs0 ++ (r.take k).flatMap litB) wr)) (fun _ i _ => L - (intOf i).toNat)
        case atStart => exact ⟨0, _, _, _, Nat.zero_le _, rfl, rfl, by rw [List.take_zero, List.flatMap_nil, List.append_nil]; exact H⟩
        case round =>
          obtain ⟨k, g, m', c, hk, rfl, rfl, H⟩ := hrel
          have q1 := H.out.box.cells 1 _ rfl
          have q2 := H.out.ext.cell F0.out
          have hm' : m' ≤ 10000000 := by
            rw [← H.out.own.len, List.length_append]
            have h1 := litsB_le (c := r.take k) fun l hl => HLC.out r (List.mem_of_getElem? HRM.out) l (List.mem_of_mem_take hl)
            have h2 : (r.take k).length ≤ k := by simp; omega
            have h3 : bs0.length ≤ 5000000 := by
              rw [HBS.out, List.length_append]
              have h1 := clsB_le (rs := rs.take j) fun c hc => HLC.out c (List.mem_of_mem_take hc)
              have h2 := szF_le rs j
              have := HS.out.1
              omega
            omega
          by_cases hlt2 : k < L
          · have hkl : (k : Int) < (L : Int) := Int.ofNat_lt.2 hlt2
            obtain ⟨q, hq⟩ : ∃ q, r[k]? = some q := ⟨_, List.getElem?_eq_getElem (by have := HL.out; omega)⟩
            obtain ⟨c1, d1, rfl, g1⟩ := HRC.out k (.int .i64 q) (by simp [i64s, hq])
            replace g1 := H.out.ext.cell g1
            have hqb := HLC.out r (List.mem_of_getElem? HRM.out) q (List.mem_of_getElem? hq)
            have hqi := itoa_le hqb.1 hqb.2
            have HQB := Lib.hid hqb
            have HTK : Hid ((r.take (k + 1)).flatMap litB = (r.take k).flatMap litB ++ Lib.itoa q ++ [32]) := Lib.hid (by rw [List.take_add_one, hq, List.flatMap_append]; simp [litB])
            clear hq hqb
            go_wp2_with (first | (go_at_call 35; refine (numR_any q _ (by have := HQB.out; omega) (by have := HQB.out; omega)).mono ?_; rintro e w' ⟨rfl, rfl⟩) | (at_builtin; refine wpList_appM_str rfl (.tmp 38) (.tmp 47) 64 9 rfl 5 i0 Tryd.underlying64 Tryd.underlying9 hi hz0 hz1 hz2 H.out.own rfl (l := Lib.itoa q) rfl (by omega) H.out.ext.size ?_; intro g2 c2 w6 hP2; have H2 := Lib.hid (H.out.put hP2.out); clear hP2) | (at_builtin; refine wpList_appM_lit rfl (.tmp 48) (.tmp 49) 64 rfl 5 i0 Tryd.underlying64 hi hz0 hz1 hz2 H2.out.own rfl (l := [32]) #[.int .u8 32] rfl _ rfl 1 rfl rfl (by decide) (by simp only [List.length_cons, List.length_nil]; omega) H2.out.ext.size ?_; intro g3 c3 w7 hP3; have H3 := Lib.hid (H2.out.put hP3.out); clear hP3))
            exact ⟨⟨k + 1, _, _, _, by omega, by go_num, rfl, by rw [HTK.out, ← List.append_assoc, ← List.append_assoc]; exact Lib.hid H3.out⟩, by simp [intOf]; omega⟩
          · have hkl : ¬ (k : Int) < (L : Int) := fun e => hlt2 (Int.ofNat_lt.1 e)
            have H1 : Hid (RT w X x (.slice (some ⟨b, o, none⟩) n cap) g m' c (bs0 ++ r.flatMap litB) wr) := Lib.hid (by have := H.out; rwa [List.take_of_length_le (by have := HL.out; omega)] at this)
            go_wp2_with (at_builtin; refine wpList_appM_lit rfl (.tmp 51) (.tmp 52) 64 rfl 5 i0 Tryd.underlying64 hi hz0 hz1 hz2 H1.out.own rfl (l := [48, 10]) #[.int .u8 48, .int .u8 10] rfl _ rfl 2 rfl rfl (by decide) (by simp only [List.length_cons, List.length_nil]; omega) H1.out.ext.size ?_; intro g3 c3 w7 hP3; have H3 := Lib.hid (H1.out.put hP3.out); clear hP3)
            refine ⟨⟨j + 1, _, _, _, by omega, by go_num, rfl, ?_⟩, by simp [intOf]; omega⟩
            rw [List.take_add_one, HRM.out, List.flatMap_append, ← List.append_assoc, ← HBS.out]
            have h9 := H3.out
            rw [List.append_assoc] at h9
            refine Lib.hid ?_
            simpa [clB] using h9
      · have hji : ¬ (j : Int) < (n : Int) := fun e => hlt (Int.ofNat_lt.1 e)
        have HF := H.out
        rw [List.take_of_length_le (by have := HN.out; omega), HHB.out] at HF
        have htx : headB x n ++ rs.flatMap clB = textF x rs := by unfold textF; rw [HN.out]
        rw [htx] at HF
        obtain ⟨tb, htb⟩ : ∃ t, t = textF x rs := ⟨_, rfl⟩
        rw [← htb] at HF
        have hml := HF.own.len
        subst hml
        have hcv2 := run_convert_bytes_back (P := Tryd.prog) wr 64 9 5 ⟨g, 0, none⟩ c tb Tryd.underlying64 Tryd.underlying5 Tryd.underlying9 (fun j hj => HF.own.slc j _ (by simp [Lib.byteCells, hj]))
        have HRT2 : Hid (R = tb) := Lib.hid (by rw [HRR.out, if_pos HC.out, htb])
        have HX := Lib.hid HF.ext
        clear HF htx htb H
        go_wp2
        go_ret
        exact ⟨by rw [HRT2.out]; rfl, HX.out⟩
end Go.Proofs.YtlikmdeplpldlaaDoor

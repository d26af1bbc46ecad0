/-
  The walks of the document's own reader: bytes are read as a program.
  Conditions: no more bytes than 10000.
-/
import Derived.Test.YtipfcfaigbeakaaCodeRefP
import Derived.Test.YtipfcfaigbeakaaKit5
import Derived.Deep.RegionHeld3
import Derived.Lib.Bytes
namespace Go.Proofs.Ytipfcfaigbeakaa
open Go.RowKit
set_option linter.unusedSimpArgs false
set_option linter.unusedVariables false
set_option maxRecDepth 100000

/-- What the document's reading leaves. -/
def RefPR (w : World) (o : Option CodeV) (e : Ending) (w' : World) : Prop :=
  ∃ c kv iv bv, e = .returned (.tuple #[codeA c kv iv bv, .int .i64 (match o with | some _ => 0 | none => 50)]) ∧ c = o.getD zeroV ∧ CodeIn w' kv iv bv c ∧ Ext w w'
theorem RefPR.none {w w' : World} (hx : Ext w w') : RefPR w .none (.returned (.tuple #[.agg zeroC.toArray, .int .i64 50])) w' :=
  ⟨zeroV, .slice .none 0 0, .slice .none 0 0, .slice .none 0 0, rfl, rfl, ⟨SlC.nil _, SlC.nil _, SlC.nil _⟩, hx⟩
theorem str4 (l : List Int) (hl : ∀ x ∈ l, 0 ≤ x ∧ x < 256) (h : ¬ l = [77, 84, 82, 49]) : ((strOfNums l).toList == [77, 84, 82, 49]) = false := by
  rw [beq_eq_false_iff_ne, Lib.strOfNums_toList]
  intro e
  exact h (bytesI_inj hl (by decide) (e.trans rfl))
set_option maxHeartbeats 4000000 in
theorem refParse_go (l : List Int) (v : Value) (w : World) (hlen : l.length ≤ 10000) (hv : SlC w v l.length (u8s l)) (hlb : ∀ x ∈ l, 0 ≤ x ∧ x < 256) (hp : l.take 4 = [77, 84, 82, 49]) :
    Calls Try.prog 25 #[v] w (RefPR w (parseV l)) := by
  obtain ⟨a, cap, rfl, hn1, hn2, -⟩ := id hv
  have h4 : 4 ≤ l.length := by
    have := congrArg List.length hp
    rw [List.length_take] at this
    simp at this; omega
  have hw := nat64 hn1 hn2
  have h4c : 4 ≤ cap := by omega
  have HV := Lib.hid hv
  have HLB := Lib.hid hlb
  have HP := Lib.hid hp
  have hs4 : SlC w (.slice a 4 cap) (l.take 4).length (u8s (l.take 4)) := by
    rw [show (l.take 4).length = 4 by rw [List.length_take]; omega]
    obtain ⟨a', cap', e1, -, hm, hc⟩ := hv
    simp only [Value.slice.injEq] at e1
    obtain ⟨rfl, -, rfl⟩ := e1
    refine ⟨a, cap, rfl, h4c, hm, fun j u hu => hc j u ?_⟩
    rw [List.getElem?_map, List.getElem?_take] at hu
    split at hu
    · rw [List.getElem?_map]; exact hu
    · cases hu
  rw [hp] at hs4
  have s4 := run_str 38 5 Try.underlying38 Try.underlying5 (hs4.ext ((Ext.refl w).alloc (.cells zeroK 25))) 9 Try.underlying9
  have hse : ((strOfNums [77, 84, 82, 49]).toList == [77, 84, 82, 49]) = true := by rw [Lib.strOfNums_toList]; rfl
  have hle : ¬ (4000000 < (l.length : Int)) := by omega
  have hle4 : ¬ ((l.length : Int) < 4) := by omega
  obtain ⟨Q, hQ⟩ : ∃ Q, Q = RefPR w (parseV l) := ⟨_, rfl⟩
  rw [← hQ]
  have HQ := Lib.hid hQ
  clear hQ hv hlb hp hn1 hn2 hs4
  go_enter Try.func25, Try.ntmps25
  go_upto_region 6 with fail
  have hrb : BoxV (w.heap.size + 1) [.slice a l.length cap, .int .i64 ((4 : Nat) : Int), .bool false] ((w.alloc (.cells zeroK 25)).alloc (.cells #[.slice a l.length cap, .int .i64 4, .bool false] 100)) :=
    ⟨fun j u hu => by rw [cell_of_row _ _ j _ _ (0, 0) (heap_alloc_at _ _ _ (by simp))]; simpa using hu, fun j => frozen_of_row _ _ j _ _ (heap_alloc_at _ _ _ (by simp)), by simp⟩
  have hX6 : ((w.alloc (.cells zeroK 25)).alloc (.cells #[.slice a l.length cap, .int .i64 4, .bool false] 100)).heap[w.heap.size]? = some (.cells zeroK 25) := (Below.block ((Ext.refl (w.alloc _)).alloc _) w.heap.size (by simp)).trans (heap_alloc_last w _)
  have hE6 : Ext w ((w.alloc (.cells zeroK 25)).alloc (.cells #[.slice a l.length cap, .int .i64 4, .bool false] 100)) := ((Ext.refl w).alloc _).alloc _
  generalize (w.alloc (.cells zeroK 25)).alloc (.cells #[.slice a l.length cap, .int .i64 4, .bool false] 100) = w6 at hrb hX6 hE6 ⊢
  clear s4 hse hle hle4
  go_upto_region 7 with (go_at_call 55; refine (refList_any w (w.heap.size + 1) a cap l 4 false 5 _ (by unfold I64; decide) hlen h4 HV.out HLB.out hE6 (Nat.le_succ _) hrb).mono ?_; rintro e w7 ⟨hv5, hs, k5, bad5, rfl, ho5, hb5, ht5, hN5⟩)
  have hX7 := two_block ht5 (by omega) (by omega) hX6
  have hE7 : Ext w w7 := ht5.ext hE6 (Nat.le_succ _) (Nat.le_succ _)
  have b2 := hb5.cells 2 _ rfl
  have hRB6 := hrb.lt
  have HN5 := Lib.hid hN5
  clear hrb hX6 ht5 hN5
  cases bad5
  · obtain ⟨hr5, hl5⟩ := HN5.out.lst.full (by have := HN5.out.all rfl; omega)
    obtain ⟨kk, i, o, c, s, rfl⟩ := five hl5
    have HA5 : Hid (Acc (l.drop 4) false (rest5 kk i o c s (l.drop k5))) := Lib.hid ⟨fun _ => by rw [take_head5]; show (readsV 5 (l.drop 4)).bind head5 = _; rw [show readsV 5 (l.drop 4) = some ([kk, i, o, c, s], l.drop k5) from hr5]; rfl, fun e => by cases e⟩
    have HI5 : Hid (I64 kk ∧ I64 i ∧ I64 o ∧ I64 c ∧ I64 s) := Lib.hid ⟨HN5.out.v64 kk (by simp), HN5.out.v64 i (by simp), HN5.out.v64 o (by simp), HN5.out.v64 c (by simp), HN5.out.v64 s (by simp)⟩
    have hk5 := HN5.out.len
    obtain ⟨hg, hcap, rfl, hgb, hgc, hgl⟩ := ownsRow_some ho5 (by simp)
    have HS : Hid (∀ w', Ext w7 w' → w'.cell? ⟨hg, 1, none⟩ = some (.int .i64 i) ∧ w'.cell? ⟨hg, 2, none⟩ = some (.int .i64 o) ∧ w'.cell? ⟨hg, 3, none⟩ = some (.int .i64 c) ∧ w'.cell? ⟨hg, 4, none⟩ = some (.int .i64 s)) := Lib.hid fun w' hx => ⟨hx.cell (own_cell1 ho5 1 _ rfl).1, hx.cell (own_cell1 ho5 2 _ rfl).1, hx.cell (own_cell1 ho5 3 _ rfl).1, hx.cell (own_cell1 ho5 4 _ rfl).1⟩
    clear hr5 hl5 HN5
    go_upto_region 9 with fail
    go_region_held3 (fun w' => w'.cell? ⟨hg, 1, none⟩ = some (.int .i64 i) ∧ w'.cell? ⟨hg, 2, none⟩ = some (.int .i64 o) ∧ w'.cell? ⟨hg, 3, none⟩ = some (.int .i64 c) ∧ w'.cell? ⟨hg, 4, none⟩ = some (.int .i64 s))
      (exact HS.out _ (by repeat first | exact Ext.refl _ | assumption | refine Ext.drew ?_ | refine Ext.drewN ?_ _ | refine Ext.extBy ?_ _ | refine Ext.alloc ?_ _ | refine Ext.setCell ?_ (by simp; try omega) _ | (refine Ext.trans ?_ (by assumption))))
      (fail)
    have hRB := hb5.lt
    have HC : Hid (∀ j u, #[Value.slice none 0 0, .int .i64 i, .int .i64 o, .int .i64 c, .int .i64 s, .slice none 0 0, .slice none 0 0].toList[j]? = some u → (w7.alloc (.cells #[.slice none 0 0, .int .i64 i, .int .i64 o, .int .i64 c, .int .i64 s, .slice none 0 0, .slice none 0 0] 25)).cell? ⟨w7.heap.size, j, none⟩ = some u) := Lib.hid fun j u hu => by rw [cell_of_row _ _ j _ _ (0, 0) (heap_alloc_last w7 _)]; simpa using hu
    have rs8 : RS w w.heap.size (w.heap.size + 1) w7.heap.size (.slice a l.length cap) k5 false [.slice none 0 0, .int .i64 i, .int .i64 o, .int .i64 c, .int .i64 s, .slice none 0 0, .slice none 0 0] (w7.alloc (.cells #[.slice none 0 0, .int .i64 i, .int .i64 o, .int .i64 c, .int .i64 s, .slice none 0 0, .slice none 0 0] 25)).drew :=
      RS.drew ⟨hE7.alloc _, hb5.ext ((Ext.refl w7).alloc _), ⟨fun j u hu => HC.out j u hu, fun j => frozen_of_row _ _ j _ _ (heap_alloc_last w7 _), by simp⟩, ext_block ((Ext.refl w7).alloc _) hX7⟩
    have g0 : (w7.alloc (.cells #[.slice none 0 0, .int .i64 i, .int .i64 o, .int .i64 c, .int .i64 s, .slice none 0 0, .slice none 0 0] 25)).drew.cell? ⟨hg, 0, none⟩ = some (.int .i64 kk) := ((Ext.refl w7).alloc _).drew.cell (own_cell1 ho5 0 _ rfl).1
    have g3 : (w7.alloc (.cells #[.slice none 0 0, .int .i64 i, .int .i64 o, .int .i64 c, .int .i64 s, .slice none 0 0, .slice none 0 0] 25)).drew.cell? ⟨hg, 3, none⟩ = some (.int .i64 c) := ((Ext.refl w7).alloc _).drew.cell (own_cell1 ho5 3 _ rfl).1
    have hsz8 : w7.heap.size + 1 ≤ (w7.alloc (.cells #[.slice none 0 0, .int .i64 i, .int .i64 o, .int .i64 c, .int .i64 s, .slice none 0 0, .slice none 0 0] 25)).drew.heap.size := by simp
    have HNE : Hid (w.heap.size ≤ w.heap.size ∧ w.heap.size < w.heap.size + 1 ∧ w.heap.size + 1 < w7.heap.size) := Lib.hid ⟨Nat.le_refl _, Nat.lt_succ_self _, hRB⟩
    have HGR : Hid (hg ≠ w.heap.size + 1 ∧ hg ≠ w7.heap.size) := Lib.hid ⟨by omega, by omega⟩
    go_wp2_with fail
    generalize (w7.alloc (.cells #[.slice none 0 0, .int .i64 i, .int .i64 o, .int .i64 c, .int .i64 s, .slice none 0 0, .slice none 0 0] 25)).drew = w8 at rs8 g0 g3 hsz8 ⊢
    obtain ⟨C, hC⟩ : ∃ C, C = w7.heap.size := ⟨_, rfl⟩
    rw [← hC] at rs8 hsz8 HNE HGR ⊢
    clear hC HC HS hb5 hX7 ho5 hgb hgc hgl hRB b2 hE6 hE7 hRB6
    have hhead := Lib.hid (And.intro g0 g3)
    go_upto_region 11 with (go_at_call 55; refine (RS.list HNE.out hlen HV.out HLB.out rs8 hk5 kk HI5.out.1).mono ?_; rintro e w9 ⟨kv, ks, k9, bad9, rfl, ho9, rs9, ht9, hN9⟩; obtain ⟨ka, km, kcap, rfl⟩ := own_slice3 ho9; have f0 := rs9.box.cells 0 _ rfl; have fz := rs9.box.fz; have fl := rs9.box.lt)
    have rs10 : RS w w.heap.size (w.heap.size + 1) C (.slice a l.length cap) k9 bad9 [.slice ka km kcap, .int .i64 i, .int .i64 o, .int .i64 c, .int .i64 s, .slice none 0 0, .slice none 0 0] (w9.setCell ⟨C, 0, none⟩ (.slice ka km kcap)) := rs9.put HNE.out 0 _
    have hk10 := ownsRow_setCell_below (ownsRow_base ho9 hsz8) (a := ⟨C, 0, none⟩) (Nat.lt_succ_self C) (.slice ka km kcap)
    have g10 : (w9.setCell ⟨C, 0, none⟩ (.slice ka km kcap)).cell? ⟨hg, 3, none⟩ = some (.int .i64 c) := by
      rw [World.cell?_setCell_other _ _ _ _ (by intro e; simp only [Addr.mk.injEq] at e; exact HGR.out.2 e.1.symm)]
      exact ht9.cell HGR.out.1 HGR.out.1 hhead.out.2
    have HA10 : Hid (Acc (l.drop 4) bad9 (rest6 ks i o c s (l.drop k9))) := Lib.hid (Acc.list (f := fun p => rest6 p.1 i o c s p.2) HA5.out hN9.lst (fun h => by have := hN9.all h; omega))
    have HK10 := Lib.hid hN9.v64
    have hk9 := hN9.len
    have hsz10 : C + 1 ≤ (w9.setCell ⟨C, 0, none⟩ (.slice ka km kcap)).heap.size := by have := ht9.size; simp; omega
    generalize w9.setCell ⟨C, 0, none⟩ (.slice ka km kcap) = w10 at rs10 hk10 g10 hsz10 ⊢
    clear rs8 g0 g3 hsz8 ho9 rs9 ht9 hN9 f0 fz fl HA5 hhead
    go_upto_region 12 with (go_at_call 55; refine (RS.list HNE.out hlen HV.out HLB.out rs10 hk9 c HI5.out.2.2.2.1).mono ?_; rintro e w11 ⟨iv, is, k11, bad11, rfl, ho11, rs11, ht11, hN11⟩; obtain ⟨ia, im, icap, rfl⟩ := own_slice3 ho11; have f0 := rs11.box.cells 5 _ rfl; have fz := rs11.box.fz; have fl := rs11.box.lt)
    have rs12 : RS w w.heap.size (w.heap.size + 1) C (.slice a l.length cap) k11 bad11 [.slice ka km kcap, .int .i64 i, .int .i64 o, .int .i64 c, .int .i64 s, .slice ia im icap, .slice none 0 0] (w11.setCell ⟨C, 5, none⟩ (.slice ia im icap)) := rs11.put HNE.out 5 _
    have hk12 := ownsRow_setCell_below (ht11.row' hk10 (by have := HNE.out; omega) (by have := HNE.out; omega)) (a := ⟨C, 5, none⟩) (Nat.lt_succ_self C) (.slice ia im icap)
    have hi12 := ownsRow_setCell_below (ownsRow_base ho11 hsz10) (a := ⟨C, 5, none⟩) (Nat.lt_succ_self C) (.slice ia im icap)
    have HA12 : Hid (Acc (l.drop 4) bad11 (rest7 ks i o c s is (l.drop k11))) := Lib.hid (Acc.list (f := fun p => rest7 ks i o c s p.1 p.2) HA10.out hN11.lst (fun h => by have := hN11.all h; omega))
    have HI12 := Lib.hid hN11.v64
    have hk11 := hN11.len
    generalize w11.setCell ⟨C, 5, none⟩ (.slice ia im icap) = w12 at rs12 hk12 hi12 ⊢
    clear rs10 hk10 g10 hsz10 ho11 rs11 ht11 hN11 f0 fz fl HA10 hk9
    go_upto_region 13 with (go_at_call 56; refine (RS.num HNE.out hlen HV.out HLB.out rs12 hk11).mono ?_; rintro e w13 ⟨n, k13, bad13, rfl, rs13, ht13, hN13⟩)
    have HA13 : Hid (Acc (l.drop 4) bad13 (rest8 ks i o c s is n (l.drop k13))) := Lib.hid (Acc.num (f := fun p => rest8 ks i o c s is p.1 p.2) HA12.out hN13)
    have h22 : Two2 (C + 1) w13.heap.size (.slice ka km kcap) ks (.slice ia im icap) is w13 := by
      have a1 := ht13.row' hk12 (by have := HNE.out; omega) (by have := HNE.out; omega)
      have a2 := ht13.row' hi12 (by have := HNE.out; omega) (by have := HNE.out; omega)
      exact ⟨a1, a2, fun g hg => (a1.lt g hg).2, fun g hg => (a2.lt g hg).2⟩
    have hnI := hN13.v64
    have hk13 := hN13.len
    have hM := rs13.box.lt
    clear rs12 hk12 hi12 ht13 hN13 HA12 hk11 HGR
    unfold I64 at hnI
    go_wp2
    go_loopw [8] (fun ix wr => ∃ (done : List InsV) (k1 : Nat) (b1 : Bool) (bv : Value), ix = .int .i64 done.length ∧ QR w w.heap.size (w.heap.size + 1) C w13.heap.size (.slice a l.length cap) k1 b1 [.slice ka km kcap, .int .i64 i, .int .i64 o, .int .i64 c, .int .i64 s, .slice ia im icap, bv] (.slice ka km kcap) ks (.slice ia im icap) is bv done wr ∧ k1 ≤ l.length ∧ Hid (LstQ n.toNat (l.drop k13) bad13 b1 done (l.drop k1)) ∧ done.length ≤ 10001 ∧ Hid (∀ q ∈ done, I64 q.op ∧ I64 q.n ∧ I64 q.k)) (fun ix _ => n.toNat - (intOf ix).toNat)
    case atStart => exact ⟨[], k13, bad13, .slice none 0 0, rfl, ⟨rs13, h22, own_nil _ _ _ _, Nat.le_refl _⟩, hk13, Lib.hid (LstQ.start bad13), by simp, Lib.hid (by simp)⟩
    case round =>
      clear rs13 h22
      obtain ⟨done, k1, b1, bv, rfl, hs, hk1, HLQ, hdl, HDQ⟩ := hrel
      have b2 := hs.rs.rb.cells 2 _ rfl
      have bl := hs.rs.rb.lt
      obtain ⟨ba, bm, bcap, rfl⟩ := own_slice3 hs.own
      by_cases hend : n ≤ (done.length : Int) ∨ b1 = true
      · have HF : Hid (b1 = false → n ≤ done.length) := Lib.hid (fun e => by rcases hend with h | h; exact h; rw [h] at e; cases e)
        have HAE : Hid (Acc (l.drop 4) b1 (some (codeOf ks i o c s is done))) := Lib.hid (HA13.out.body HLQ.out (fun e => by have := HF.out e; omega))
        clear hend hdl
        have p0 := hs.rs.box.cells 0 _ rfl
        have p1 := hs.rs.box.cells 1 _ rfl
        have p2 := hs.rs.box.cells 2 _ rfl
        have p3 := hs.rs.box.cells 3 _ rfl
        have p4 := hs.rs.box.cells 4 _ rfl
        have p5 := hs.rs.box.cells 5 _ rfl
        have p6 := hs.rs.box.cells 6 _ rfl
        have hext := hs.rs.ext
        have hblk := hs.rs.blk
        cases b1
        · have hd : ¬ ((done.length : Int) < n) := by have := HF.out rfl; omega
          have hin : CodeIn wr (.slice ka km kcap) (.slice ia im icap) (.slice ba bm bcap) (codeOf ks i o c s is done) := ⟨SlC.of_owns hs.two.k, SlC.of_owns hs.two.i, SlC.of_owns hs.own⟩
          have hcwf : CodeWf (codeOf ks i o c s is done) := ⟨HI5.out.2.1, HI5.out.2.2.1, HI5.out.2.2.2.1, HI5.out.2.2.2.2, HK10.out, HI12.out, HDQ.out⟩
          have HTK : Hid (takeV (l.drop 4) = some (codeOf ks i o c s is done)) := Lib.hid (HAE.out.1 rfl)
          have HWR : Hid (∀ w', Ext wr w' → Calls Try.prog 22 #[codeA (codeOf ks i o c s is done) (.slice ka km kcap) (.slice ia im icap) (.slice ba bm bcap)] w' fun e w1 => ∃ v, e = .returned (.tuple #[v, .int .i64 (chk (codeOf ks i o c s is done))]) ∧ SlC w1 v (outB (codeOf ks i o c s is done)).length (u8s (outB (codeOf ks i o c s is done))) ∧ Ext w' w1) := Lib.hid fun w' hx => by
            refine (refWrite_any _ _ _ _ w' (hin.ext hx) hcwf).mono ?_
            rintro e w1 ⟨v, rfl, ho, hx1⟩
            exact ⟨v, rfl, SlC.of_owns ho, hx1⟩
          have HS1 : Hid (∀ w' v, SlC w' v (outB (codeOf ks i o c s is done)).length (u8s (outB (codeOf ks i o c s is done))) → (convert 38 9 v).run Try.prog w' = .ok (.string (strOfNums (outB (codeOf ks i o c s is done)))) w') := Lib.hid fun w' v hv => run_str 38 5 Try.underlying38 Try.underlying5 hv 9 Try.underlying9
          have HS2 : Hid (∀ w', Ext w w' → (convert 38 9 (.slice a l.length cap)).run Try.prog w' = .ok (.string (strOfNums l)) w') := Lib.hid fun w' hx => run_str 38 5 Try.underlying38 Try.underlying5 (HV.out.ext hx) 9 Try.underlying9
          obtain ⟨x, hx⟩ : ∃ x, x = chk (codeOf ks i o c s is done) := ⟨_, rfl⟩
          obtain ⟨L, hL⟩ : ∃ L, L = outB (codeOf ks i o c s is done) := ⟨_, rfl⟩
          have HX := Lib.hid hx
          have HL := Lib.hid hL
          rw [← hx, ← hL] at HWR
          rw [← hL] at HS1
          clear hx hL
          have h2k := hs.two.k
          have h2i := hs.two.i
          have ho := hs.own
          have hsz := hs.size
          have hCl := World.block_lt_of_cell? wr _ p0
          have HXC : Hid (w.heap.size < C + 1 ∧ w.heap.size < w13.heap.size ∧ w.heap.size ≤ C + 1 ∧ w.heap.size ≤ w13.heap.size) := Lib.hid (by have := HNE.out; omega)
          clear hs HLQ
          simp only [codeA] at HWR
          by_cases h0 : x = 0
          · subst h0
            have HLC : Hid (L = codeB (codeOf ks i o c s is done)) := Lib.hid (HL.out.trans (by unfold outB; rw [if_pos HX.out.symm]))
            by_cases heq : L = l
            · have HPS : Hid (parseV l = some (codeOf ks i o c s is done)) := Lib.hid (by unfold parseV; rw [if_pos HP.out, HTK.out, Option.bind_some, if_pos ⟨HX.out.symm, HLC.out.symm.trans heq⟩])
              have hse2 : ((strOfNums L).toList == (strOfNums l).toList) = true := by rw [heq]; exact beq_self_eq_true _
              clear heq
              go_wp2_with (first | (go_at_call 22; refine (HWR.out _ (by repeat first | exact Ext.refl _ | assumption | refine Ext.drew ?_ | refine Ext.drewN ?_ _ | refine Ext.extBy ?_ _ | refine Ext.alloc ?_ _ | refine Ext.setCell ?_ (by simp; try omega) _ | (refine Ext.trans ?_ (by assumption)))).mono ?_; rintro e wA ⟨vA, rfl, hvA, hxA⟩; have hsA := HS1.out _ _ hvA; (first | (with_reducible obtain ⟨tA, rfl⟩ := Ext.tok2 hxA) | (obtain ⟨tA, rfl⟩ := Ext.tok hxA)); have hsB := HS2.out _ (hext.trans (Ext.by wr tA))) | (refine wpList_store_row rfl 25 (.tmp 2) (.tmp 106) rfl w.heap.size #[.slice ka km kcap, .int .i64 i, .int .i64 o, .int .i64 c, .int .i64 s, .slice ia im icap, .slice ba bm bcap] rfl rfl 25 _ (ext_block (Ext.by wr _) hblk) rfl rfl (by simp [Value.oneCell']) ?_))
              all_goals
                refine ret_row2 rfl w.heap.size 25 #[.slice ka km kcap, .int .i64 i, .int .i64 o, .int .i64 c, .int .i64 s, .slice ia im icap, .slice ba bm bcap] _ rfl (setRow_heap _ _ _ _ _ _ (ext_block (Ext.by wr _) hblk)) Try.underlying25 rfl (by kernel_rfl) rfl ?_
                rw [HQ.out, HPS.out]
                exact ⟨(codeOf ks i o c s is done), _, _, _, rfl, rfl, ⟨SlC.of_owns (row_setRow (ownsRow_ext h2k (Ext.by wr _)) HXC.out.1 _), SlC.of_owns (row_setRow (ownsRow_ext h2i (Ext.by wr _)) HXC.out.1 _), SlC.of_owns (row_setRow (ownsRow_ext ho (Ext.by wr _)) HXC.out.2.1 _)⟩, below_setRow (hext.trans (Ext.by wr _)) (Nat.le_refl _) _⟩
            · have HPN : Hid (parseV l = none) := Lib.hid (by unfold parseV; rw [if_pos HP.out, HTK.out, Option.bind_some, if_neg (fun h => heq (HLC.out.trans h.2))])
              have hse2 : ((strOfNums L).toList == (strOfNums l).toList) = false := by
                rw [beq_eq_false_iff_ne, Lib.strOfNums_toList, Lib.strOfNums_toList]
                exact fun e => heq (bytesI_inj (by rw [HLC.out]; exact codeB_bytes _) HLB.out e)
              clear heq
              go_wp2_with (first | (go_at_call 22; refine (HWR.out _ (by repeat first | exact Ext.refl _ | assumption | refine Ext.drew ?_ | refine Ext.drewN ?_ _ | refine Ext.extBy ?_ _ | refine Ext.alloc ?_ _ | refine Ext.setCell ?_ (by simp; try omega) _ | (refine Ext.trans ?_ (by assumption)))).mono ?_; rintro e wA ⟨vA, rfl, hvA, hxA⟩; have hsA := HS1.out _ _ hvA; (first | (with_reducible obtain ⟨tA, rfl⟩ := Ext.tok2 hxA) | (obtain ⟨tA, rfl⟩ := Ext.tok hxA)); have hsB := HS2.out _ (hext.trans (Ext.by wr tA))) | (refine wpList_store_row rfl 25 (.tmp 2) (.tmp 105) rfl w.heap.size #[.slice none 0 0, .int .i64 0, .int .i64 0, .int .i64 0, .int .i64 0, .slice none 0 0, .slice none 0 0] rfl rfl 25 _ (ext_block (Ext.by wr _) hblk) rfl rfl (by simp [Value.oneCell']) ?_))
              all_goals
                refine ret_row2 rfl w.heap.size 25 #[.slice none 0 0, .int .i64 0, .int .i64 0, .int .i64 0, .int .i64 0, .slice none 0 0, .slice none 0 0] _ rfl (setRow_heap _ _ _ _ _ _ (ext_block (Ext.by wr _) hblk)) Try.underlying25 rfl (by kernel_rfl) rfl ?_
                rw [HQ.out, HPN.out]
                exact RefPR.none (below_setRow (hext.trans (Ext.by wr _)) (Nat.le_refl _) _)
          · have HPN : Hid (parseV l = none) := Lib.hid (by unfold parseV; rw [if_pos HP.out, HTK.out, Option.bind_some, if_neg (fun h => h0 (HX.out.trans h.1))])
            have hx0 : (x != 0) = true := by simpa using h0
            go_wp2_with (first | (go_at_call 22; refine (HWR.out _ (by repeat first | exact Ext.refl _ | assumption | refine Ext.drew ?_ | refine Ext.drewN ?_ _ | refine Ext.extBy ?_ _ | refine Ext.alloc ?_ _ | refine Ext.setCell ?_ (by simp; try omega) _ | (refine Ext.trans ?_ (by assumption)))).mono ?_; rintro e wA ⟨vA, rfl, hvA, hxA⟩; (first | (with_reducible obtain ⟨tA, rfl⟩ := Ext.tok2 hxA) | (obtain ⟨tA, rfl⟩ := Ext.tok hxA))) | (refine wpList_store_row rfl 25 (.tmp 2) (.tmp 105) rfl w.heap.size #[.slice none 0 0, .int .i64 0, .int .i64 0, .int .i64 0, .int .i64 0, .slice none 0 0, .slice none 0 0] rfl rfl 25 _ (ext_block (Ext.by wr _) hblk) rfl rfl (by simp [Value.oneCell']) ?_))
            all_goals
              refine ret_row2 rfl w.heap.size 25 #[.slice none 0 0, .int .i64 0, .int .i64 0, .int .i64 0, .int .i64 0, .slice none 0 0, .slice none 0 0] _ rfl (setRow_heap _ _ _ _ _ _ (ext_block (Ext.by wr _) hblk)) Try.underlying25 rfl (by kernel_rfl) rfl ?_
              rw [HQ.out, HPN.out]
              exact RefPR.none (below_setRow (hext.trans (Ext.by wr _)) (Nat.le_refl _) _)
        · have HPN : Hid (parseV l = none) := Lib.hid (by unfold parseV; rw [if_pos HP.out, HAE.out.2 rfl]; rfl)
          go_wp2_with (refine wpList_store_row rfl 25 (.tmp 2) (.tmp 90) rfl w.heap.size #[.slice none 0 0, .int .i64 0, .int .i64 0, .int .i64 0, .int .i64 0, .slice none 0 0, .slice none 0 0] rfl rfl 25 _ hblk rfl rfl (by simp [Value.oneCell']) ?_)
          all_goals
            refine ret_row2 rfl w.heap.size 25 #[.slice none 0 0, .int .i64 0, .int .i64 0, .int .i64 0, .int .i64 0, .slice none 0 0, .slice none 0 0] _ rfl (setRow_heap _ _ _ _ _ _ hblk) Try.underlying25 rfl (by kernel_rfl) rfl ?_
            rw [HQ.out, HPN.out]
            exact RefPR.none (below_setRow hext (Nat.le_refl _) _)
      · have hlt : (done.length : Int) < n := by omega
        obtain rfl : b1 = false := by cases b1 <;> simp_all
        clear hend
        have hd3 : done.length ≤ 10000 := by have := (HLQ.out.1 rfl).2.2.2; rw [List.length_drop, List.length_drop] at this; omega
        have HIC : ∀ v1 v2 v3 : Int, Hid ((done ++ [(⟨v1, v2, v3⟩ : InsV)]).length = done.length + 1 ∧ insCells (done ++ [(⟨v1, v2, v3⟩ : InsV)]) = insCells done ++ [.int .i64 v1, .int .i64 v2, .int .i64 v3]) := fun v1 v2 v3 => Lib.hid ⟨by simp, by rw [insCells_append]; rfl⟩
        go_upto_region 16 with fail
        replace hs := hs.drew
        refine wp_region_noPanic ?_
        refine hd_begin (S := fun w' => w'.cell? ⟨C, 6, none⟩ = some (.slice ba bm bcap)) 12 (by kernel_rfl) (by kernel_rfl) (hs.rs.box.cells 6 _ rfl) (fun hHeld => ?_)
        refine hd_take (i := 0) (v := .pointer (some ⟨C, 6, none⟩)) rfl (by kernel_rfl) (by kernel_rfl) (fun _ _ _ h => h) (Or.inl ⟨by rfl, fun w' hSw => by go_simp⟩) hHeld ?_
        try simp only [Act.put, List.setIfInBounds_toArray, List.set_cons_zero, List.set_cons_succ]
        refine hd_take (i := 1) (v := .slice ba bm bcap) rfl (by kernel_rfl) (by kernel_rfl) (fun _ _ _ h => h) (Or.inl ⟨by rfl, fun w' hSw => by go_simp⟩) hHeld ?_
        try simp only [Act.put, List.setIfInBounds_toArray, List.set_cons_zero, List.set_cons_succ]
        refine hd_take (i := 2) (v := .pointer (some ⟨w.heap.size + 1, 0, none⟩)) rfl (by kernel_rfl) (by kernel_rfl) (fun _ _ _ h => h) (Or.inl ⟨by rfl, fun w' hSw => by go_simp⟩) hHeld ?_
        try simp only [Act.put, List.setIfInBounds_toArray, List.set_cons_zero, List.set_cons_succ]
        refine hd_take (i := 4) (v := .pointer (some ⟨w.heap.size + 1, 0, none⟩)) rfl (by kernel_rfl) (by kernel_rfl) (fun _ _ _ h => h) (Or.inl ⟨by rfl, fun w' hSw => by go_simp⟩) hHeld ?_
        try simp only [Act.put, List.setIfInBounds_toArray, List.set_cons_zero, List.set_cons_succ]
        refine hd_take (i := 6) (v := .pointer (some ⟨w.heap.size + 1, 0, none⟩)) rfl (by kernel_rfl) (by kernel_rfl) (fun _ _ _ h => h) (Or.inl ⟨by rfl, fun w' hSw => by go_simp⟩) hHeld ?_
        try simp only [Act.put, List.setIfInBounds_toArray, List.set_cons_zero, List.set_cons_succ]
        refine hd_one (i := 3) rfl (by kernel_rfl) (by decide) (fun K hK => ?_)
        go_simp
        go_at_call 56
        refine (QR.num HNE.out hM hlen HV.out HLB.out hs hk1).mono ?_
        rintro e wk ⟨v1, k2, b2, rfl, hs, m1⟩
        have hk2 := m1.len
        refine hK.out _ _ (hs.rs.box.cells 6 _ rfl) (fun hHeld => ?_)
        clear hK K
        try simp only [Act.put, List.setIfInBounds_toArray, List.set_cons_zero, List.set_cons_succ]
        refine hd_one (i := 5) rfl (by kernel_rfl) (by decide) (fun K hK => ?_)
        go_simp
        go_at_call 56
        refine (QR.num HNE.out hM hlen HV.out HLB.out hs hk2).mono ?_
        rintro e wk ⟨v2, k3, b3, rfl, hs, m2⟩
        have hk3 := m2.len
        refine hK.out _ _ (hs.rs.box.cells 6 _ rfl) (fun hHeld => ?_)
        clear hK K
        try simp only [Act.put, List.setIfInBounds_toArray, List.set_cons_zero, List.set_cons_succ]
        refine hd_one (i := 7) rfl (by kernel_rfl) (by decide) (fun K hK => ?_)
        go_simp
        go_at_call 56
        refine (QR.num HNE.out hM hlen HV.out HLB.out hs hk3).mono ?_
        rintro e wk ⟨v3, k4, b4, rfl, hs, m3⟩
        have hk4 := m3.len
        refine hK.out _ _ (hs.rs.box.cells 6 _ rfl) (fun hHeld => ?_)
        clear hK K
        try simp only [Act.put, List.setIfInBounds_toArray, List.set_cons_zero, List.set_cons_succ]
        refine hd_take (i := 8) (v := .agg #[.int .i64 v1, .int .i64 v2, .int .i64 v3]) rfl (by kernel_rfl) (by kernel_rfl) (fun _ _ _ h => h) (Or.inl ⟨by rfl, fun w' hSw => by go_simp⟩) hHeld ?_
        try simp only [Act.put, List.setIfInBounds_toArray, List.set_cons_zero, List.set_cons_succ]
        refine hd_one (i := 9) rfl (by kernel_rfl) (by decide) (fun K hK => ?_)
        go_simp
        refine hK.out _ _ ((RS.alloc hs.rs _).box.cells 6 _ rfl) (fun hHeld => ?_)
        clear hK K
        try simp only [Act.put, List.setIfInBounds_toArray, List.set_cons_zero, List.set_cons_succ]
        refine hd_one (i := 10) rfl (by kernel_rfl) (by decide) (fun K hK => ?_)
        refine step_append_slc _ rfl (.tmp 75) (.tmp 83) 23 rfl w13.heap.size 33 (.agg #[.int .i64 0, .int .i64 0, .int .i64 0]) 3 24 Try.underlying23 infoIns rfl (by decide) (.slice ba bm bcap) done.length (insCells done) rfl (hs.own.alloc _) _ 1 [.int .i64 v1, .int .i64 v2, .int .i64 v3] rfl (SlC.fresh _ #[.int .i64 v1, .int .i64 v2, .int .i64 v3] _ 1 _ (by simp) (by decide)) (by simp) (by simp [Value.oneCell']) (by unfold maxLen; omega) (by omega) (Nat.le_trans hs.size (by simp)) ?_
        intro vz2 wz2 hown2 hg2 hat2
        obtain ⟨a2, mm2, c2, rfl⟩ := own_slice3 hown2
        rw [← (HIC v1 v2 v3).out.1, ← (HIC v1 v2 v3).out.2] at hown2
        have hs := QR.append HNE.out hM hs hg2 hown2
        refine hK.out _ _ (hs.rs.box.cells 6 _ rfl) (fun hHeld => ?_)
        clear hK K
        try simp only [Act.put, List.setIfInBounds_toArray, List.set_cons_zero, List.set_cons_succ]
        refine hd_take (i := 11) (v := .pointer (some ⟨C, 6, none⟩)) rfl (by kernel_rfl) (by kernel_rfl) (fun _ _ _ h => h) (Or.inl ⟨by rfl, fun w' hSw => by go_simp⟩) hHeld ?_
        try simp only [Act.put, List.setIfInBounds_toArray, List.set_cons_zero, List.set_cons_succ]
        refine hd_end (by kernel_rfl) ?_
        simp only [List.drop_succ_cons, List.drop_zero]
        have qz := hs.rs.box.fz
        have q6 := hs.rs.box.cells 6 _ rfl
        clear hHeld
        go_wp2_with fail
        refine NoPanic.normal ?_
        go_wp2_with fail
        go_roundw
        case rel =>
          have hs2 := hs.size
          refine ⟨done ++ [⟨v1, v2, v3⟩], k4, b4, .slice a2 mm2 c2, by simp, ⟨RS.put HNE.out hs.rs 6 _, hs.two.set (Nat.lt_succ_self C) 6 _, ownsRow_setCell_below hs.own hM _, by simp; omega⟩, hk4, Lib.hid (LstQ.nums HLQ.out (by omega) m1 m2 m3), by simp; omega, Lib.hid (fun q hq => ?_)⟩
          rcases List.mem_append.1 hq with h | h
          · exact HDQ.out q h
          · rw [List.mem_singleton.1 h]; exact ⟨m1.v64, m2.v64, m3.v64⟩
        case measure => simp [intOf]; omega
  · have HPN : Hid (parseV l = none) := Lib.hid (by
      unfold parseV
      rw [if_pos HP.out, take_head5, show readsV 5 (l.drop 4) = none from (HN5.out.lst.2 rfl).resolve_left (by simp)]; rfl)
    go_wp2_with (refine wpList_store_row rfl 25 (.tmp 2) (.tmp 34) rfl w.heap.size #[.slice none 0 0, .int .i64 0, .int .i64 0, .int .i64 0, .int .i64 0, .slice none 0 0, .slice none 0 0] rfl rfl 25 _ hX7 rfl rfl (by simp [Value.oneCell']) ?_)
    refine ret_row2 rfl w.heap.size 25 #[.slice none 0 0, .int .i64 0, .int .i64 0, .int .i64 0, .int .i64 0, .slice none 0 0, .slice none 0 0] _ rfl (setRow_heap _ _ _ _ _ _ hX7) Try.underlying25 rfl (by kernel_rfl) rfl ?_
    rw [HQ.out, HPN.out]
    exact RefPR.none (below_setRow hE7 (Nat.le_refl _) _)
set_option maxHeartbeats 4000000 in
theorem refParse_short (l : List Int) (v : Value) (w : World) (hlen : l.length ≤ 10000) (hv : SlC w v l.length (u8s l)) (h4 : l.length < 4) :
    Calls Try.prog 25 #[v] w (RefPR w (parseV l)) := by
  have hpn : parseV l = none := by
    unfold parseV
    rw [if_neg (fun h => by have := congrArg List.length h; rw [List.length_take] at this; simp at this; omega)]
  obtain ⟨a, cap, rfl, hn1, hn2, -⟩ := hv
  have hw := nat64 hn1 hn2
  have hle : ¬ (4000000 < (l.length : Int)) := by omega
  have hle4 : ((l.length : Int) < 4) := by omega
  rw [hpn]
  obtain ⟨Q, hQ⟩ : ∃ Q, Q = RefPR w none := ⟨_, rfl⟩
  rw [← hQ]
  have HQ := Lib.hid hQ
  clear hQ
  go_enter Try.func25, Try.ntmps25
  go_wp2_with (refine wpList_store_row rfl 25 (.tmp 2) (.tmp 24) rfl w.heap.size #[.slice none 0 0, .int .i64 0, .int .i64 0, .int .i64 0, .int .i64 0, .slice none 0 0, .slice none 0 0] rfl rfl 25 _ (heap_alloc_last w _) rfl rfl (by simp [Value.oneCell']) ?_)
  all_goals
    refine ret_row2 rfl w.heap.size 25 #[.slice none 0 0, .int .i64 0, .int .i64 0, .int .i64 0, .int .i64 0, .slice none 0 0, .slice none 0 0] _ rfl (setRow_heap _ _ _ _ _ _ (heap_alloc_last w _)) Try.underlying25 rfl (by kernel_rfl) rfl ?_
    rw [HQ.out]
    exact RefPR.none (below_setRow ((Ext.refl w).alloc _) (Nat.le_refl _) _)
set_option maxHeartbeats 4000000 in
theorem refParse_head (l : List Int) (v : Value) (w : World) (hlen : l.length ≤ 10000) (hv : SlC w v l.length (u8s l)) (hlb : ∀ x ∈ l, 0 ≤ x ∧ x < 256) (h4 : 4 ≤ l.length) (hp : ¬ l.take 4 = [77, 84, 82, 49]) :
    Calls Try.prog 25 #[v] w (RefPR w (parseV l)) := by
  have hpn : parseV l = none := by unfold parseV; rw [if_neg hp]
  obtain ⟨a, cap, rfl, hn1, hn2, -⟩ := id hv
  have hw := nat64 hn1 hn2
  have h4c : 4 ≤ cap := by omega
  have hs4 : SlC w (.slice a 4 cap) (l.take 4).length (u8s (l.take 4)) := by
    rw [show (l.take 4).length = 4 by rw [List.length_take]; omega]
    obtain ⟨a', cap', e1, -, hm, hc⟩ := hv
    simp only [Value.slice.injEq] at e1
    obtain ⟨rfl, -, rfl⟩ := e1
    refine ⟨a, cap, rfl, h4c, hm, fun j u hu => hc j u ?_⟩
    rw [List.getElem?_map, List.getElem?_take] at hu
    split at hu
    · rw [List.getElem?_map]; exact hu
    · cases hu
  have s4 := run_str 38 5 Try.underlying38 Try.underlying5 (hs4.ext ((Ext.refl w).alloc (.cells zeroK 25))) 9 Try.underlying9
  have hse := str4 (l.take 4) (fun x hx => hlb x (List.mem_of_mem_take hx)) hp
  have hle : ¬ (4000000 < (l.length : Int)) := by omega
  have hle4 : ¬ ((l.length : Int) < 4) := by omega
  rw [hpn]
  obtain ⟨Q, hQ⟩ : ∃ Q, Q = RefPR w none := ⟨_, rfl⟩
  rw [← hQ]
  have HQ := Lib.hid hQ
  clear hQ hv hlb hp hn1 hn2 hs4
  go_enter Try.func25, Try.ntmps25
  go_wp2_with (refine wpList_store_row rfl 25 (.tmp 2) (.tmp 24) rfl w.heap.size #[.slice none 0 0, .int .i64 0, .int .i64 0, .int .i64 0, .int .i64 0, .slice none 0 0, .slice none 0 0] rfl rfl 25 _ (heap_alloc_last w _) rfl rfl (by simp [Value.oneCell']) ?_)
  all_goals
    refine ret_row2 rfl w.heap.size 25 #[.slice none 0 0, .int .i64 0, .int .i64 0, .int .i64 0, .int .i64 0, .slice none 0 0, .slice none 0 0] _ rfl (setRow_heap _ _ _ _ _ _ (heap_alloc_last w _)) Try.underlying25 rfl (by kernel_rfl) rfl ?_
    rw [HQ.out]
    exact RefPR.none (below_setRow ((Ext.refl w).alloc _) (Nat.le_refl _) _)
theorem refParse_any (l : List Int) (v : Value) (w : World) (hlen : l.length ≤ 10000) (hv : SlC w v l.length (u8s l)) (hlb : ∀ x ∈ l, 0 ≤ x ∧ x < 256) :
    Calls Try.prog 25 #[v] w (RefPR w (parseV l)) := by
  by_cases h4 : l.length < 4
  · exact refParse_short l v w hlen hv h4
  · by_cases hp : l.take 4 = [77, 84, 82, 49]
    · exact refParse_go l v w hlen hv hlb hp
    · exact refParse_head l v w hlen hv hlb (by omega) hp
end Go.Proofs.Ytipfcfaigbeakaa

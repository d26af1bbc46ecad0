/-
  The walks of the program's code: bytes behind their head are read as a program.
  Conditions: there are no more bytes than the program takes.
-/
import Derived.Test.YtipfcfaigbeakaaCodeParseP
import Derived.Test.YtipfcfaigbeakaaKit5
import Derived.Test.YtipfcfaigbeakaaMCodeStacks
import Derived.Deep.RegionHeld3
import Derived.Deep.RegionLaw
namespace Go.Proofs.Ytipfcfaigbeakaa
open Go.RowKit
set_option linter.unusedSimpArgs false
set_option linter.unusedVariables false
set_option maxRecDepth 100000

theorem codeB_bytes (c : CodeV) : ∀ x ∈ codeB c, 0 ≤ x ∧ x < 256 := by
  intro x hx
  unfold codeB at hx
  rcases List.mem_append.1 hx with h | h
  · simp only [List.mem_cons, List.not_mem_nil, or_false] at h
    omega
  · obtain ⟨n, _, hn⟩ := List.mem_flatMap.1 h
    exact digs_byte _ x hn
abbrev zeroV : CodeV := codeOf [] 0 0 0 0 [] []
abbrev zeroC : List Value := [.slice none 0 0, .int .i64 0, .int .i64 0, .int .i64 0, .int .i64 0, .slice none 0 0, .slice none 0 0]
/-- What a reading of bytes leaves: a program in memory of its own, and an error. -/
def ParseR (w : World) (o : Option CodeV) (err : Int) (e : Ending) (w' : World) : Prop :=
  ∃ c kv iv bv, e = .returned (.tuple #[codeA c kv iv bv, .int .i64 (match o with | some _ => 0 | none => err)]) ∧ c = o.getD zeroV ∧ CodeIn w' kv iv bv c ∧ CodeWf c ∧ w'.ownsRow w.heap.size 33 3 bv c.body.length (insCells c.body) ∧ Ext w w'
theorem ParseR.none {w w' : World} (err : Int) (hx : Ext w w') : ParseR w .none err (.returned (.tuple #[.agg zeroC.toArray, .int .i64 err])) w' :=
  ⟨zeroV, .slice .none 0 0, .slice .none 0 0, .slice .none 0 0, rfl, rfl, ⟨SlC.nil _, SlC.nil _, SlC.nil _⟩, ⟨by simp [I64], by simp [I64], by simp [I64], by simp [I64], by simp, by simp, by simp⟩, own_nil _ _ _ _, hx⟩

set_option maxHeartbeats 8000000 in
theorem parse_go (l : List Int) (v : Value) (w : World) (hv : SlC w v l.length (u8s l)) (hl : ∀ x ∈ l, 0 ≤ x ∧ x < 256) (hlen : l.length ≤ 4000000) (hp : l.take 4 = [77, 84, 82, 49]) :
    Calls Try.prog 23 #[v] w (ParseR w (parseV l) 50) := by
  obtain ⟨a, cap, rfl, hn1, hn2, hcc⟩ := id hv
  have h4 : 4 ≤ l.length := by
    have := congrArg List.length hp
    rw [List.length_take] at this
    simp at this; omega
  obtain ⟨b, o', rfl, -⟩ := hcc 0 _ (by rw [List.getElem?_map, List.getElem?_eq_getElem (by omega)]; rfl)
  clear hcc
  have hw := nat64 hn1 hn2
  have HV := Lib.hid hv
  have HLB := Lib.hid hl
  have HP := Lib.hid hp
  obtain ⟨p, hp4, hsl⟩ : ∃ p : Addr, (4 < l.length → p = ⟨b, o' + 4, none⟩) ∧ ∀ W, (Instr.slice 38 (.slice (some ⟨b, o', none⟩) l.length cap) (some (.int .i64 4)) none none).run Try.prog W = .ok (.slice (some p) (l.length - 4) (cap - 4)) W := by
    by_cases hc : cap = 4
    · refine ⟨⟨b, o', none⟩, fun h => by omega, fun W => ?_⟩
      have h44 : (4 : Int) ≤ (l.length : Int) := by omega
      go_simp
      trace_state
    · refine ⟨⟨b, o' + 4, none⟩, fun _ => rfl, fun W => ?_⟩
      have h44 : (4 : Int) ≤ (l.length : Int) := by omega
      go_simp
      trace_state
  have HT : Hid (SlC w (.slice (some p) (l.length - 4) (cap - 4)) (l.drop 4).length (u8s (l.drop 4))) := Lib.hid (HV.out.tail 4 h4 p (fun h => hp4 h))
  have kc : Sem.run Try.prog (convert 38 38 (.slice (some ⟨w.heap.size + 1, 0, none⟩) 4 4)) ((w.alloc (.cells #[.slice none 0 0, .int .i64 0, .int .i64 0, .int .i64 0, .int .i64 0, .slice none 0 0, .slice none 0 0] 25)).alloc (.cells #[.int .u8 77, .int .u8 84, .int .u8 82, .int .u8 49] 5)) = .ok (.slice (some ⟨w.heap.size + 1, 0, none⟩) 4 4) ((w.alloc (.cells #[.slice none 0 0, .int .i64 0, .int .i64 0, .int .i64 0, .int .i64 0, .slice none 0 0, .slice none 0 0] 25)).alloc (.cells #[.int .u8 77, .int .u8 84, .int .u8 82, .int .u8 49] 5 (4, 5))) := by
    have := Lib.run_convert_bytes_const (P := Try.prog) (w.alloc (.cells #[.slice none 0 0, .int .i64 0, .int .i64 0, .int .i64 0, .int .i64 0, .slice none 0 0, .slice none 0 0] 25)) 38 5 #[.int .u8 77, .int .u8 84, .int .u8 82, .int .u8 49] 4 4 Try.underlying38 Try.underlying5
    have hs : (w.alloc (.cells #[.slice none 0 0, .int .i64 0, .int .i64 0, .int .i64 0, .int .i64 0, .slice none 0 0, .slice none 0 0] 25)).heap.size = w.heap.size + 1 := by simp
    rw [hs] at this
    exact this
  have HPX : Hid (∀ w', Ext w w' → ∀ h0, (∀ (j : Nat) (u : Value), (u8s [77, 84, 82, 49])[j]? = some u → w'.cell? ⟨h0, j, none⟩ = some u) → Calls Try.prog 50 #[.slice (some ⟨b, o', none⟩) l.length cap, .slice (some ⟨h0, 0, none⟩) 4 4] w' fun e w'' => e = .returned (.bool true) ∧ w' = w'') := Lib.hid fun w' hx h0 hc => by
    have := hasPrefix_any l [77, 84, 82, 49] (.slice (some ⟨b, o', none⟩) l.length cap) (.slice (some ⟨h0, 0, none⟩) 4 4) w' hl (by decide) (hv.ext hx) ⟨_, 4, rfl, Nat.le_refl _, by decide, fun j u hu => ⟨h0, 0, rfl, by rw [Nat.zero_add]; exact hc j u hu⟩⟩
    refine this.mono ?_
    rintro e w2 ⟨rfl, h⟩
    exact ⟨by simp [hp], h⟩
  have hmf : ∀ (fn : Fn) (first cap : Array Value) (w : World), (Instr.makeFunc fn first cap).run Try.prog w = .ok (.func fn first cap) w := fun _ _ _ _ => rfl
  have hle : ¬ (4000000 < (l.length : Int)) := by omega
  obtain ⟨Q, hQ⟩ : ∃ Q, Q = ParseR w (parseV l) 50 := ⟨_, rfl⟩
  rw [← hQ]
  have HQ := Lib.hid hQ
  clear hQ hv hl hp hn1 hn2 hp4
  go_enter Try.func23, Try.ntmps23
  go_upto_region 10 with (first | (go_at_call 50; go_must (refine (HPX.out _ (by repeat first | exact Ext.refl _ | assumption | refine Ext.drew ?_ | refine Ext.drewN ?_ _ | refine Ext.extBy ?_ _ | refine Ext.alloc ?_ _ | refine Ext.setCell ?_ (by simp; try omega) _ | (refine Ext.trans ?_ (by assumption))) _ (fun j u hu => by rw [marked_cell _ _ _ _ _ _ (by simp)]; simpa using hu)).mono ?_; rintro e w1 ⟨rfl, rfl⟩)) | (go_at_call 51; refine (reader_any _ _ _ _).mono ?_; rintro e w1 ⟨rfl, rfl⟩))
  have hX : (((((((w.alloc (.cells #[.slice none 0 0, .int .i64 0, .int .i64 0, .int .i64 0, .int .i64 0, .slice none 0 0, .slice none 0 0] 25)).alloc (.cells #[.int .u8 77, .int .u8 84, .int .u8 82, .int .u8 49] 5 (4, 5))).alloc (.cells #[.slice (some p) (l.length - 4) (cap - 4)] 38)).alloc (.cells #[.func (.func 78) #[] #[.pointer (some ⟨w.heap.size + 1 + 1, 0, none⟩)]] 93)).alloc (.cells #[.bool false] 4)).alloc (.cells #[.func (.func 52) #[] #[.pointer (some ⟨w.heap.size + 1 + 1 + 1, 0, none⟩), .pointer (some ⟨w.heap.size + 1 + 1 + 1 + 1, 0, none⟩)]] 96)).alloc (.cells #[.slice none 0 0, .int .i64 0, .int .i64 0, .int .i64 0, .int .i64 0, .slice none 0 0, .slice none 0 0] 25)).heap[w.heap.size]? = some (.cells #[.slice none 0 0, .int .i64 0, .int .i64 0, .int .i64 0, .int .i64 0, .slice none 0 0, .slice none 0 0] 25) :=
    (Below.block ((((((((Ext.refl (w.alloc (.cells #[.slice none 0 0, .int .i64 0, .int .i64 0, .int .i64 0, .int .i64 0, .slice none 0 0, .slice none 0 0] 25))).alloc _).alloc _).alloc _).alloc _).alloc _).alloc _)) w.heap.size (by simp)).trans (heap_alloc_last w _)
  have hbox : BoxV (w.heap.size + 1 + 1 + 1 + 1 + 1 + 1) zeroC (((((((w.alloc (.cells #[.slice none 0 0, .int .i64 0, .int .i64 0, .int .i64 0, .int .i64 0, .slice none 0 0, .slice none 0 0] 25)).alloc (.cells #[.int .u8 77, .int .u8 84, .int .u8 82, .int .u8 49] 5 (4, 5))).alloc (.cells #[.slice (some p) (l.length - 4) (cap - 4)] 38)).alloc (.cells #[.func (.func 78) #[] #[.pointer (some ⟨w.heap.size + 1 + 1, 0, none⟩)]] 93)).alloc (.cells #[.bool false] 4)).alloc (.cells #[.func (.func 52) #[] #[.pointer (some ⟨w.heap.size + 1 + 1 + 1, 0, none⟩), .pointer (some ⟨w.heap.size + 1 + 1 + 1 + 1, 0, none⟩)]] 96)).alloc (.cells #[.slice none 0 0, .int .i64 0, .int .i64 0, .int .i64 0, .int .i64 0, .slice none 0 0, .slice none 0 0] 25)) :=
    ⟨fun j u hu => by rw [cell_of_row _ _ j _ _ (0, 0) (heap_alloc_at _ _ _ (by simp))]; simpa using hu, fun j => frozen_of_row _ _ j _ _ (heap_alloc_at _ _ _ (by simp)), by simp⟩
  have hrd : Rd w (w.heap.size + 1 + 1) (w.heap.size + 1 + 1 + 1) (w.heap.size + 1 + 1 + 1 + 1) (w.heap.size + 1 + 1 + 1 + 1 + 1) (l.drop 4) false (((((((w.alloc (.cells #[.slice none 0 0, .int .i64 0, .int .i64 0, .int .i64 0, .int .i64 0, .slice none 0 0, .slice none 0 0] 25)).alloc (.cells #[.int .u8 77, .int .u8 84, .int .u8 82, .int .u8 49] 5 (4, 5))).alloc (.cells #[.slice (some p) (l.length - 4) (cap - 4)] 38)).alloc (.cells #[.func (.func 78) #[] #[.pointer (some ⟨w.heap.size + 1 + 1, 0, none⟩)]] 93)).alloc (.cells #[.bool false] 4)).alloc (.cells #[.func (.func 52) #[] #[.pointer (some ⟨w.heap.size + 1 + 1 + 1, 0, none⟩), .pointer (some ⟨w.heap.size + 1 + 1 + 1 + 1, 0, none⟩)]] 96)).alloc (.cells #[.slice none 0 0, .int .i64 0, .int .i64 0, .int .i64 0, .int .i64 0, .slice none 0 0, .slice none 0 0] 25)) :=
    ⟨(by repeat first | exact Ext.refl _ | assumption | refine Ext.drew ?_ | refine Ext.drewN ?_ _ | refine Ext.extBy ?_ _ | refine Ext.alloc ?_ _ | refine Ext.setCell ?_ (by simp; try omega) _ | (refine Ext.trans ?_ (by assumption))), by omega, by omega, by omega, by omega, by omega, by omega, by omega, ⟨_, by go_simp, HT.out⟩, fun x hx => HLB.out x (List.mem_of_mem_drop hx), by go_simp, by go_simp, by go_simp, by go_simp, by go_simp⟩
  have hsz : w.heap.size + 1 + 1 + 1 + 1 + 1 + 1 < (((((((w.alloc (.cells #[.slice none 0 0, .int .i64 0, .int .i64 0, .int .i64 0, .int .i64 0, .slice none 0 0, .slice none 0 0] 25)).alloc (.cells #[.int .u8 77, .int .u8 84, .int .u8 82, .int .u8 49] 5 (4, 5))).alloc (.cells #[.slice (some p) (l.length - 4) (cap - 4)] 38)).alloc (.cells #[.func (.func 78) #[] #[.pointer (some ⟨w.heap.size + 1 + 1, 0, none⟩)]] 93)).alloc (.cells #[.bool false] 4)).alloc (.cells #[.func (.func 52) #[] #[.pointer (some ⟨w.heap.size + 1 + 1 + 1, 0, none⟩), .pointer (some ⟨w.heap.size + 1 + 1 + 1 + 1, 0, none⟩)]] 96)).alloc (.cells #[.slice none 0 0, .int .i64 0, .int .i64 0, .int .i64 0, .int .i64 0, .slice none 0 0, .slice none 0 0] 25)).heap.size := by simp
  generalize (((((((w.alloc (.cells #[.slice none 0 0, .int .i64 0, .int .i64 0, .int .i64 0, .int .i64 0, .slice none 0 0, .slice none 0 0] 25)).alloc (.cells #[.int .u8 77, .int .u8 84, .int .u8 82, .int .u8 49] 5 (4, 5))).alloc (.cells #[.slice (some p) (l.length - 4) (cap - 4)] 38)).alloc (.cells #[.func (.func 78) #[] #[.pointer (some ⟨w.heap.size + 1 + 1, 0, none⟩)]] 93)).alloc (.cells #[.bool false] 4)).alloc (.cells #[.func (.func 52) #[] #[.pointer (some ⟨w.heap.size + 1 + 1 + 1, 0, none⟩), .pointer (some ⟨w.heap.size + 1 + 1 + 1 + 1, 0, none⟩)]] 96)).alloc (.cells #[.slice none 0 0, .int .i64 0, .int .i64 0, .int .i64 0, .int .i64 0, .slice none 0 0, .slice none 0 0] 25)) = w10 at hX hbox hrd hsz ⊢
  clear kc hmf HPX hsl HT
  obtain ⟨R, hR⟩ : ∃ R, R = w.heap.size + 1 + 1 := ⟨_, rfl⟩
  obtain ⟨N, hN⟩ : ∃ N, N = w.heap.size + 1 + 1 + 1 := ⟨_, rfl⟩
  obtain ⟨D, hD⟩ : ∃ D, D = w.heap.size + 1 + 1 + 1 + 1 := ⟨_, rfl⟩
  obtain ⟨F, hF⟩ : ∃ F, F = w.heap.size + 1 + 1 + 1 + 1 + 1 := ⟨_, rfl⟩
  obtain ⟨C, hC⟩ : ∃ C, C = w.heap.size + 1 + 1 + 1 + 1 + 1 + 1 := ⟨_, rfl⟩
  obtain ⟨X, hXe⟩ : ∃ X, X = w.heap.size := ⟨_, rfl⟩
  rw [← hF, ← hD, ← hN, ← hR] at hrd
  rw [← hC] at hbox hsz
  rw [← hXe] at hX
  rw [← hC, ← hF, ← hD, ← hN, ← hR, ← hXe]
  have HNE : Hid (R < N ∧ N < D ∧ D < F ∧ F < C ∧ X < R ∧ w.heap.size ≤ X) := Lib.hid (by omega)
  clear hR hN hD hF hC hXe
  have q0 := hrd.read
  go_upto_region 11 with (first | (go_at_call 52; refine (read_any hrd).mono ?_; rintro e w11 ⟨rfl, hrd1, ht1⟩))
  have hbox1 := hbox.two ht1 (by have := HNE.out; omega) (by have := HNE.out; omega)
  have hX1 := two_block ht1 (by have := HNE.out; omega) (by have := HNE.out; omega) hX
  have HA1 : Hid (Acc (l.drop 4) (false || rdB (l.drop 4)) (rest1 (rdN (l.drop 4)) (rdL (l.drop 4)))) := Lib.hid (Acc.start (l.drop 4)).read
  have hl1 : (rdL (l.drop 4)).length ≤ 4000000 := by have := rdL_le (l.drop 4); rw [List.length_drop] at this; omega
  have hkI := rdN_I64 (l.drop 4)
  obtain ⟨k, hk⟩ : ∃ k, k = rdN (l.drop 4) := ⟨_, rfl⟩
  obtain ⟨l1, hl1e⟩ : ∃ l1, l1 = rdL (l.drop 4) := ⟨_, rfl⟩
  obtain ⟨bad1, hb1⟩ : ∃ b, b = (false || rdB (l.drop 4)) := ⟨_, rfl⟩
  rw [← hl1e] at hl1
  rw [← hk] at hkI
  rw [← hl1e, ← hb1] at hrd1
  rw [← hk, ← hl1e, ← hb1] at HA1
  rw [← hk]
  clear hk hl1e hb1 hrd hbox hX ht1 q0 hsz
  have qf1 := hrd1.read
  have g1_1 := hbox1.cells 1 _ rfl
  have g2_1 := hbox1.cells 2 _ rfl
  have g3_1 := hbox1.cells 3 _ rfl
  have g4_1 := hbox1.cells 4 _ rfl
  have gz1 := hbox1.fz
  go_cut [36] (fun _ wx => ∃ (i o c s : Int) (l5 : List Int) (bad5 : Bool), Rd w R N D F l5 bad5 wx ∧ BoxV C [.slice none 0 0, .int .i64 i, .int .i64 o, .int .i64 c, .int .i64 s, .slice none 0 0, .slice none 0 0] wx ∧ wx.heap[X]? = some (.cells #[.slice none 0 0, .int .i64 0, .int .i64 0, .int .i64 0, .int .i64 0, .slice none 0 0, .slice none 0 0] 25) ∧ Hid (Acc (l.drop 4) bad5 (rest5 k i o c s l5)) ∧ l5.length ≤ 4000000 ∧ Hid (I64 i ∧ I64 o ∧ I64 c ∧ I64 s))
  case first =>
    have hs : PS w X R N D F C l1 bad1 [.slice none 0 0, .int .i64 0, .int .i64 0, .int .i64 0, .int .i64 0, .slice none 0 0, .slice none 0 0] _ := ⟨hrd1.drew, hbox1.drew, drew_block hX1⟩
    have HA : Hid (Acc (l.drop 4) (bad1 || rdB l1 || rdB (rdL l1) || rdB (rdL (rdL l1)) || rdB (rdL (rdL (rdL l1)))) (rest5 k (rdN l1) (rdN (rdL l1)) (rdN (rdL (rdL l1))) (rdN (rdL (rdL (rdL l1)))) (rdL (rdL (rdL (rdL l1)))))) := Lib.hid (Acc.read (f := fun p => rest5 k (rdN l1) (rdN (rdL l1)) (rdN (rdL (rdL l1))) p.1 p.2) (Acc.read (f := fun p => rest4 k (rdN l1) (rdN (rdL l1)) p.1 p.2) (Acc.read (f := fun p => rest3 k (rdN l1) p.1 p.2) (Acc.read (f := fun p => rest2 k p.1 p.2) HA1.out))))
    have HLL : Hid ((rdL (rdL (rdL (rdL l1)))).length ≤ 4000000) := Lib.hid (by
      have a1 := rdL_le l1
      have a2 := rdL_le (rdL l1)
      have a3 := rdL_le (rdL (rdL l1))
      have a4 := rdL_le (rdL (rdL (rdL l1)))
      omega)
    clear hrd1 hbox1 hX1 HA1 qf1 g1_1 g2_1 g3_1 g4_1 gz1 hkI
    have gf := hs.fun
    have gz := hs.box.fz
    have gl := hs.box.lt
    have g1 := hs.box.cells 1 _ rfl
    have g2 := hs.box.cells 2 _ rfl
    have g3 := hs.box.cells 3 _ rfl
    have g4 := hs.box.cells 4 _ rfl
    go_region_held3 (fun w' => w'.cell? ⟨F, 0, none⟩ = some (.func (.func 52) #[] #[.pointer (some ⟨N, 0, none⟩), .pointer (some ⟨D, 0, none⟩)]))
      ((apply PS.fun (W := w) (X := X) (R := R) (N := N) (D := D) (C := C); (repeat (first | (with_reducible exact hs) | (with_reducible apply PS.put HNE.out)))))
      ((go_at_call 52; with_reducible refine (PS.call HNE.out hs).mono ?_; rintro e wk ⟨rfl, hs⟩; have gf := hs.fun; have gz := hs.box.fz; have gl := hs.box.lt; have g1 := hs.box.cells 1 _ rfl; have g2 := hs.box.cells 2 _ rfl; have g3 := hs.box.cells 3 _ rfl; have g4 := hs.box.cells 4 _ rfl))
    go_wp2_with fail
    go_meet
    refine PS.fin (X := X) (C := C) (vs := ((([.slice none 0 0, .int .i64 0, .int .i64 0, .int .i64 0, .int .i64 0, .slice none 0 0, .slice none 0 0] : List Value).set 1 _).set 2 _ |>.set 3 _).set 4 _) ?_ rfl HA HLL.out (Lib.hid ⟨rdN_I64 _, rdN_I64 _, rdN_I64 _, rdN_I64 _⟩)
    (repeat (first | (with_reducible exact hs) | (with_reducible apply PS.put HNE.out)))
  case rest =>
    obtain ⟨i, o, c, s, l5, bad5, hrd5, hbox5, hX5, HA5, hl5, HI5⟩ := hcut
    clear hrd1 hbox1 hX1 HA1 hl1 qf1 g1_1 g2_1 g3_1 g4_1 gz1
    have qf5 := hrd5.read
    have e0 := hbox5.cells 0 _ rfl
    have ez := hbox5.fz
    have hCl5 := hbox5.lt
    go_upto_region 13 with (first | (go_at_call 53; refine (list_any k hkI hrd5 hl5).mono ?_; rintro e w6 hL; obtain ⟨kv, ks, l6, bad6, rfl, hk6, hrd6, ht6, HL6, hn6, hki6, hl6⟩ := hL; obtain ⟨ka, km, kcap, rfl⟩ := own_slice3 hk6; have hbox6 := hbox5.two ht6 (by have := HNE.out; omega) (by have := HNE.out; omega); have hX6 := two_block ht6 (by have := HNE.out; omega) (by have := HNE.out; omega) hX5; have f0 := hbox6.cells 0 _ rfl; have fz := hbox6.fz))
    have hbox7 : BoxV C [.slice ka km kcap, .int .i64 i, .int .i64 o, .int .i64 c, .int .i64 s, .slice none 0 0, .slice none 0 0] (w6.setCell ⟨C, 0, none⟩ (.slice ka km kcap)) := BoxV.cast (hbox6.put 0 _) rfl
    have hrd7 := hrd6.putC HNE.out 0 (.slice ka km kcap)
    have hX7 := set_block (show X ≠ C by have := HNE.out; omega) 0 (.slice ka km kcap) hX6
    have hk7 := ownsRow_setCell_below (ownsRow_base hk6 (show C + 1 ≤ wc.heap.size by omega)) (a := ⟨C, 0, none⟩) (Nat.lt_succ_self C) (.slice ka km kcap)
    have HA7 : Hid (Acc (l.drop 4) bad6 (rest6 ks i o c s l6)) := Lib.hid (Acc.list (f := fun p => rest6 p.1 i o c s p.2) HA5.out HL6 (fun h => by have := hn6 h; omega))
    have HK7 := Lib.hid hki6
    have hl7 : l6.length ≤ 4000000 := by omega
    generalize w6.setCell ⟨C, 0, none⟩ (.slice ka km kcap) = w7 at hbox7 hrd7 hX7 hk7 ⊢
    clear hbox6 hrd6 hX6 hk6 ht6 HL6 hn6 hki6 hl6 f0 fz hrd5 hbox5 hX5 HA5 hl5 qf5 e0 ez
    have q3 := hbox7.cells 3 _ rfl
    have q5 := hbox7.cells 5 _ rfl
    have qz := hbox7.fz
    have qf7 := hrd7.read
    have hC7 := hbox7.lt
    go_upto_region 14 with (first | (go_at_call 53; refine (list_any c HI5.out.2.2.1 hrd7 hl7).mono ?_; rintro e w8 hL; obtain ⟨iv, is, l8, bad8, rfl, hi8, hrd8, ht8, HL8, hn8, hii8, hl8⟩ := hL; obtain ⟨ia, im, icap, rfl⟩ := own_slice3 hi8; have hbox8 := hbox7.two ht8 (by have := HNE.out; omega) (by have := HNE.out; omega); have hX8 := two_block ht8 (by have := HNE.out; omega) (by have := HNE.out; omega) hX7; have hk8 := ht8.row' hk7 (by have := HNE.out; omega) (by have := HNE.out; omega); have f5 := hbox8.cells 5 _ rfl; have fz := hbox8.fz))
    have hbox9 : BoxV C [.slice ka km kcap, .int .i64 i, .int .i64 o, .int .i64 c, .int .i64 s, .slice ia im icap, .slice none 0 0] (w8.setCell ⟨C, 5, none⟩ (.slice ia im icap)) := BoxV.cast (hbox8.put 5 _) rfl
    have hrd9 := hrd8.putC HNE.out 5 (.slice ia im icap)
    have hX9 := set_block (show X ≠ C by have := HNE.out; omega) 5 (.slice ia im icap) hX8
    have hk9 := ownsRow_setCell_below hk8 (a := ⟨C, 5, none⟩) (Nat.lt_succ_self C) (.slice ia im icap)
    have hi9 := ownsRow_setCell_below (ownsRow_base hi8 (show C + 1 ≤ w7.heap.size by omega)) (a := ⟨C, 5, none⟩) (Nat.lt_succ_self C) (.slice ia im icap)
    have HA9 : Hid (Acc (l.drop 4) bad8 (rest7 ks i o c s is l8)) := Lib.hid (Acc.list (f := fun p => rest7 ks i o c s p.1 p.2) HA7.out HL8 (fun h => by have := hn8 h; omega))
    have HI9 := Lib.hid hii8
    have hl9 : l8.length ≤ 4000000 := by omega
    generalize w8.setCell ⟨C, 5, none⟩ (.slice ia im icap) = w9 at hbox9 hrd9 hX9 hk9 hi9 ⊢
    clear hbox8 hrd8 hX8 hk8 hi8 ht8 HL8 hn8 hii8 hl8 f5 fz hrd7 hbox7 hX7 hk7 HA7 hl7 q3 q5 qz qf7 hC7 hCl5
    have qf9 := hrd9.read
    go_upto_region 15 with (first | (go_at_call 52; refine (read_any hrd9).mono ?_; rintro e w10 ⟨rfl, hrd10, ht10⟩))
    have hbox10 := hbox9.two ht10 (by have := HNE.out; omega) (by have := HNE.out; omega)
    have hX10 := two_block ht10 (by have := HNE.out; omega) (by have := HNE.out; omega) hX9
    have hk10 := ht10.row' hk9 (by have := HNE.out; omega) (by have := HNE.out; omega)
    have hi10 := ht10.row' hi9 (by have := HNE.out; omega) (by have := HNE.out; omega)
    have HA10 : Hid (Acc (l.drop 4) (bad8 || rdB l8) (rest8 ks i o c s is (rdN l8) (rdL l8))) := Lib.hid (Acc.read (f := fun p => rest8 ks i o c s is p.1 p.2) HA9.out)
    have hl10 : (rdL l8).length ≤ 4000000 := by have := rdL_le l8; omega
    have hnI := rdN_I64 l8
    obtain ⟨n, hn⟩ : ∃ n, n = rdN l8 := ⟨_, rfl⟩
    obtain ⟨l10, hl10e⟩ : ∃ l1, l1 = rdL l8 := ⟨_, rfl⟩
    obtain ⟨bad10, hb10⟩ : ∃ b, b = (bad8 || rdB l8) := ⟨_, rfl⟩
    rw [← hl10e] at hl10
    rw [← hn] at hnI
    rw [← hl10e, ← hb10] at hrd10
    rw [← hn, ← hl10e, ← hb10] at HA10
    rw [← hn]
    have h22 : Two2 (C + 1) w10.heap.size (.slice ka km kcap) ks (.slice ia im icap) is w10 := ⟨hk10, hi10, fun g hg => (hk10.lt g hg).2, fun g hg => (hi10.lt g hg).2⟩
    have hM := hbox10.lt
    clear hn hl10e hb10 hrd9 hbox9 hX9 hk9 hi9 HA9 hl9 ht10 qf9 hk10 hi10
    unfold I64 at hnI
    go_wp2
    go_loopw [11] (fun ix wr => ∃ (done : List InsV) (lq : List Int) (bq : Bool) (bv : Value), ix = .int .i64 done.length ∧ Rd w R N D F lq bq wr ∧ BoxV C [.slice ka km kcap, .int .i64 i, .int .i64 o, .int .i64 c, .int .i64 s, .slice ia im icap, bv] wr ∧ wr.heap[X]? = some (.cells #[.slice none 0 0, .int .i64 0, .int .i64 0, .int .i64 0, .int .i64 0, .slice none 0 0, .slice none 0 0] 25) ∧ wr.ownsRow w10.heap.size 33 3 bv done.length (insCells done) ∧ Two2 (C + 1) w10.heap.size (.slice ka km kcap) ks (.slice ia im icap) is wr ∧ w10.heap.size ≤ wr.heap.size ∧ Hid (LstQ n.toNat l10 bad10 bq done lq) ∧ done.length ≤ 4000001 ∧ lq.length ≤ 4000000 ∧ Hid (∀ q ∈ done, I64 q.op ∧ I64 q.n ∧ I64 q.k)) (fun ix _ => n.toNat - (intOf ix).toNat)
    case atStart => exact ⟨[], l10, bad10, .slice none 0 0, rfl, hrd10, hbox10, hX10, own_nil _ _ _ _, h22, Nat.le_refl _, Lib.hid (LstQ.start bad10), by simp, hl10, Lib.hid (by simp)⟩
    case round =>
      obtain ⟨done, lq, bq, bv, rfl, hrq0, hbq0, hxq0, hoq0, h2q0, hsq0, HLQ, hdl, hlq, HDQ⟩ := hrel
      have qb := hrq0.bad
      have qr0 := hrq0.read
      have q60 := hbq0.cells 6 _ rfl
      have qz0 := hbq0.fz
      have qs0 : C < wr.heap.size := by omega
      obtain ⟨ba, bm, bcap, rfl⟩ := own_slice3 hoq0
      by_cases hend : n ≤ (done.length : Int) ∨ bq = true
      · have HF : Hid (bq = false → n ≤ done.length) := Lib.hid (fun e => by rcases hend with h | h; exact h; rw [h] at e; cases e)
        have HAE : Hid (Acc (l.drop 4) bq (some (codeOf ks i o c s is done))) := Lib.hid (HA10.out.body HLQ.out (fun e => by have := HF.out e; omega))
        have HNO : Hid (parseV l = none → ∀ w', Ext w w' → w'.heap[X]? = some (.cells #[.slice none 0 0, .int .i64 0, .int .i64 0, .int .i64 0, .int .i64 0, .slice none 0 0, .slice none 0 0] 25) → Q (.returned (.tuple #[.agg #[.slice none 0 0, .int .i64 0, .int .i64 0, .int .i64 0, .int .i64 0, .slice none 0 0, .slice none 0 0], .int .i64 50])) (w'.setRow X #[.slice none 0 0, .int .i64 0, .int .i64 0, .int .i64 0, .int .i64 0, .slice none 0 0, .slice none 0 0])) := Lib.hid (fun hpn w' hx _ => by
          rw [HQ.out, hpn]
          exact ParseR.none 50 (below_setRow hx (by have := HNE.out; omega) _))
        cases bq
        · have hd : ¬ ((done.length : Int) < n) := by have := HF.out rfl; omega
          have hin : CodeIn wr (.slice ka km kcap) (.slice ia im icap) (.slice ba bm bcap) (codeOf ks i o c s is done) := ⟨SlC.of_owns h2q0.k, SlC.of_owns h2q0.i, SlC.of_owns hoq0⟩
          have hcwf : CodeWf (codeOf ks i o c s is done) := ⟨HI5.out.1, HI5.out.2.1, HI5.out.2.2.1, HI5.out.2.2.2, HK7.out, HI9.out, HDQ.out⟩
          have HTK : Hid (takeV (l.drop 4) = some (codeOf ks i o c s is done)) := Lib.hid (HAE.out.1 rfl)
          have HCK : Hid (∀ w', Ext wr w' → Calls Try.prog 17 #[codeA (codeOf ks i o c s is done) (.slice ka km kcap) (.slice ia im icap) (.slice ba bm bcap)] w' fun e w1 => e = .returned (.int .i64 (chk (codeOf ks i o c s is done))) ∧ Ext w' w1) := Lib.hid fun w' hx => check_any _ _ _ _ w' (hin.ext hx)
          have HWR : Hid (chk (codeOf ks i o c s is done) = 0 → ∀ w', Ext wr w' → Calls Try.prog 48 #[codeA (codeOf ks i o c s is done) (.slice ka km kcap) (.slice ia im icap) (.slice ba bm bcap)] w' fun e w1 => ∃ v, e = .returned v ∧ SlC w1 v (codeB (codeOf ks i o c s is done)).length (u8s (codeB (codeOf ks i o c s is done))) ∧ Ext w' w1) := Lib.hid fun h0 w' hx => by
            obtain ⟨h1, h2, h3⟩ := chk_sizes h0
            refine (written_any _ _ _ _ w' (hin.ext hx) hcwf h1 h2 h3).mono ?_
            rintro e w1 ⟨v, rfl, ho, hx1⟩
            exact ⟨v, rfl, SlC.of_owns ho, hx1⟩
          have hext0 := hrq0.ext
          have HEQ : Hid (∀ w' v, Ext w w' → SlC w' v (codeB (codeOf ks i o c s is done)).length (u8s (codeB (codeOf ks i o c s is done))) → Calls Try.prog 54 #[v, .slice (some ⟨b, o', none⟩) l.length cap] w' fun e w'' => e = .returned (.bool (decide (codeB (codeOf ks i o c s is done) = l))) ∧ w' = w'') := Lib.hid fun w' v hx hv => bytesEqual_any _ _ _ _ w' (codeB_bytes _) HLB.out hv (HV.out.ext hx)
          have p0 := hbq0.cells 0 _ rfl
          have p1 := hbq0.cells 1 _ rfl
          have p2 := hbq0.cells 2 _ rfl
          have p3 := hbq0.cells 3 _ rfl
          have p4 := hbq0.cells 4 _ rfl
          have p5 := hbq0.cells 5 _ rfl
          have hDl := World.block_lt_of_cell? wr _ qb
          obtain ⟨x, hx⟩ : ∃ x, x = chk (codeOf ks i o c s is done) := ⟨_, rfl⟩
          have HX := Lib.hid hx
          rw [← hx] at HCK
          rw [← hx] at HWR
          clear hx
          have h2k := h2q0.k
          have h2i := h2q0.i
          simp only [codeA] at HCK HWR
          by_cases h0 : x = 0
          · subst h0
            by_cases heq : codeB (codeOf ks i o c s is done) = l
            · have HPS : Hid (parseV l = some (codeOf ks i o c s is done)) := Lib.hid (by unfold parseV; rw [if_pos HP.out, HTK.out, Option.bind_some, if_pos ⟨HX.out.symm, heq⟩])
              have he : decide (codeB (codeOf ks i o c s is done) = l) = true := decide_eq_true heq
              rw [he] at HEQ
              clear heq he
              go_wp2_with (first | (go_at_call 17; refine (HCK.out _ (by repeat first | exact Ext.refl _ | assumption | refine Ext.drew ?_ | refine Ext.drewN ?_ _ | refine Ext.extBy ?_ _ | refine Ext.alloc ?_ _ | refine Ext.setCell ?_ (by simp; try omega) _ | (refine Ext.trans ?_ (by assumption)))).mono ?_; rintro e wA ⟨rfl, hxA⟩; (first | (with_reducible obtain ⟨tA, rfl⟩ := Ext.tok2 hxA) | (obtain ⟨tA, rfl⟩ := Ext.tok hxA))) | (go_at_call 48; refine (HWR.out trivial _ (by repeat first | exact Ext.refl _ | assumption | refine Ext.drew ?_ | refine Ext.drewN ?_ _ | refine Ext.extBy ?_ _ | refine Ext.alloc ?_ _ | refine Ext.setCell ?_ (by simp; try omega) _ | (refine Ext.trans ?_ (by assumption)))).mono ?_; rintro e wB ⟨vB, rfl, hvB, hxB⟩; (first | (with_reducible obtain ⟨tB, rfl⟩ := Ext.tok2 hxB) | (obtain ⟨tB, rfl⟩ := Ext.tok hxB))) | (go_at_call 54; refine (HEQ.out _ _ (by repeat first | exact Ext.refl _ | assumption | refine Ext.drew ?_ | refine Ext.drewN ?_ _ | refine Ext.extBy ?_ _ | refine Ext.alloc ?_ _ | refine Ext.setCell ?_ (by simp; try omega) _ | (refine Ext.trans ?_ (by assumption))) hvB).mono ?_; rintro e wE ⟨rfl, rfl⟩) | (refine wpList_store_row rfl 25 (.tmp 2) (.tmp 87) rfl X #[.slice ka km kcap, .int .i64 i, .int .i64 o, .int .i64 c, .int .i64 s, .slice ia im icap, .slice ba bm bcap] rfl rfl 25 _ (ext_block (Ext.by wr _) hxq0) rfl rfl (by simp [Value.oneCell']) ?_))
              all_goals
                refine ret_row2 rfl X 25 #[.slice ka km kcap, .int .i64 i, .int .i64 o, .int .i64 c, .int .i64 s, .slice ia im icap, .slice ba bm bcap] _ rfl (setRow_heap _ _ _ _ _ _ (ext_block (Ext.by wr _) hxq0)) Try.underlying25 rfl (by kernel_rfl) rfl ?_
                rw [HQ.out, HPS.out]
                have hXC : X < C + 1 := by have := HNE.out; omega
                refine ⟨(codeOf ks i o c s is done), _, _, _, rfl, rfl, ⟨SlC.of_owns (row_setRow (ownsRow_ext h2k (Ext.by wr _)) hXC _), SlC.of_owns (row_setRow (ownsRow_ext h2i (Ext.by wr _)) hXC _), SlC.of_owns (row_setRow (ownsRow_ext hoq0 (Ext.by wr _)) (by omega) _)⟩, hcwf, ownsRow_base (row_setRow (ownsRow_ext hoq0 (Ext.by wr _)) (by omega) _) (by have := HNE.out; omega), below_setRow (hext0.trans (Ext.by wr _)) (by have := HNE.out; omega) _⟩
            · have HPN : Hid (parseV l = none) := Lib.hid (by unfold parseV; rw [if_pos HP.out, HTK.out, Option.bind_some, if_neg (fun h => heq h.2)])
              have he : decide (codeB (codeOf ks i o c s is done) = l) = false := decide_eq_false heq
              rw [he] at HEQ
              clear heq he
              go_wp2_with (first | (go_at_call 17; refine (HCK.out _ (by repeat first | exact Ext.refl _ | assumption | refine Ext.drew ?_ | refine Ext.drewN ?_ _ | refine Ext.extBy ?_ _ | refine Ext.alloc ?_ _ | refine Ext.setCell ?_ (by simp; try omega) _ | (refine Ext.trans ?_ (by assumption)))).mono ?_; rintro e wA ⟨rfl, hxA⟩; (first | (with_reducible obtain ⟨tA, rfl⟩ := Ext.tok2 hxA) | (obtain ⟨tA, rfl⟩ := Ext.tok hxA))) | (go_at_call 48; refine (HWR.out trivial _ (by repeat first | exact Ext.refl _ | assumption | refine Ext.drew ?_ | refine Ext.drewN ?_ _ | refine Ext.extBy ?_ _ | refine Ext.alloc ?_ _ | refine Ext.setCell ?_ (by simp; try omega) _ | (refine Ext.trans ?_ (by assumption)))).mono ?_; rintro e wB ⟨vB, rfl, hvB, hxB⟩; (first | (with_reducible obtain ⟨tB, rfl⟩ := Ext.tok2 hxB) | (obtain ⟨tB, rfl⟩ := Ext.tok hxB))) | (go_at_call 54; refine (HEQ.out _ _ (by repeat first | exact Ext.refl _ | assumption | refine Ext.drew ?_ | refine Ext.drewN ?_ _ | refine Ext.extBy ?_ _ | refine Ext.alloc ?_ _ | refine Ext.setCell ?_ (by simp; try omega) _ | (refine Ext.trans ?_ (by assumption))) hvB).mono ?_; rintro e wE ⟨rfl, rfl⟩) | (refine wpList_store_row rfl 25 (.tmp 2) (.tmp 86) rfl X #[.slice none 0 0, .int .i64 0, .int .i64 0, .int .i64 0, .int .i64 0, .slice none 0 0, .slice none 0 0] rfl rfl 25 _ (ext_block (Ext.by wr _) hxq0) rfl rfl (by simp [Value.oneCell']) ?_))
              all_goals
                refine ret_row2 rfl X 25 #[.slice none 0 0, .int .i64 0, .int .i64 0, .int .i64 0, .int .i64 0, .slice none 0 0, .slice none 0 0] _ rfl (setRow_heap _ _ _ _ _ _ (ext_block (Ext.by wr _) hxq0)) Try.underlying25 rfl (by kernel_rfl) rfl ?_
                exact HNO.out HPN.out _ (hext0.trans (Ext.by wr _)) (ext_block (Ext.by wr _) hxq0)
          · have HPN : Hid (parseV l = none) := Lib.hid (by unfold parseV; rw [if_pos HP.out, HTK.out, Option.bind_some, if_neg (fun h => h0 (HX.out.trans h.1))])
            have hx0 : (x != 0) = true := by simpa using h0
            go_wp2_with (first | (go_at_call 17; refine (HCK.out _ (by repeat first | exact Ext.refl _ | assumption | refine Ext.drew ?_ | refine Ext.drewN ?_ _ | refine Ext.extBy ?_ _ | refine Ext.alloc ?_ _ | refine Ext.setCell ?_ (by simp; try omega) _ | (refine Ext.trans ?_ (by assumption)))).mono ?_; rintro e wA ⟨rfl, hxA⟩; (first | (with_reducible obtain ⟨tA, rfl⟩ := Ext.tok2 hxA) | (obtain ⟨tA, rfl⟩ := Ext.tok hxA))) | (refine wpList_store_row rfl 25 (.tmp 2) (.tmp 86) rfl X #[.slice none 0 0, .int .i64 0, .int .i64 0, .int .i64 0, .int .i64 0, .slice none 0 0, .slice none 0 0] rfl rfl 25 _ (ext_block (Ext.by wr _) hxq0) rfl rfl (by simp [Value.oneCell']) ?_))
            all_goals
              refine ret_row2 rfl X 25 #[.slice none 0 0, .int .i64 0, .int .i64 0, .int .i64 0, .int .i64 0, .slice none 0 0, .slice none 0 0] _ rfl (setRow_heap _ _ _ _ _ _ (ext_block (Ext.by wr _) hxq0)) Try.underlying25 rfl (by kernel_rfl) rfl ?_
              exact HNO.out HPN.out _ (hext0.trans (Ext.by wr _)) (ext_block (Ext.by wr _) hxq0)
        · have HPN : Hid (parseV l = none) := Lib.hid (by unfold parseV; rw [if_pos HP.out, HAE.out.2 rfl]; rfl)
          have hext0 := hrq0.ext
          go_wp2_with (refine wpList_store_row rfl 25 (.tmp 2) (.tmp 86) rfl X #[.slice none 0 0, .int .i64 0, .int .i64 0, .int .i64 0, .int .i64 0, .slice none 0 0, .slice none 0 0] rfl rfl 25 _ hxq0 rfl rfl (by simp [Value.oneCell']) ?_)
          all_goals
            refine ret_row2 rfl X 25 #[.slice none 0 0, .int .i64 0, .int .i64 0, .int .i64 0, .int .i64 0, .slice none 0 0, .slice none 0 0] _ rfl (setRow_heap _ _ _ _ _ _ hxq0) Try.underlying25 rfl (by kernel_rfl) rfl ?_
            exact HNO.out HPN.out _ hext0 hxq0
      · have hlt : (done.length : Int) < n := by omega
        obtain rfl : bq = false := by cases bq <;> simp_all
        clear hend
        have h4 := (HLQ.out.1 rfl).2.2.2
        have hd3 : done.length ≤ 4000000 := by omega
        go_upto_region 18 with fail
        have hs : QS w X R N D F C w10.heap.size lq false [.slice ka km kcap, .int .i64 i, .int .i64 o, .int .i64 c, .int .i64 s, .slice ia im icap, .slice ba bm bcap] (.slice ka km kcap) ks (.slice ia im icap) is (.slice ba bm bcap) done wr.drew := (QS.mk ⟨hrq0, hbq0, hxq0⟩ h2q0 hoq0 hsq0).drew
        clear hrq0 hbq0 hxq0 h2q0 hoq0 hsq0 hbox10 hX10 hrd10 h22 qb
        have HIC : Hid ((done ++ [(⟨rdN lq, rdN (rdL lq), rdN (rdL (rdL lq))⟩ : InsV)]).length = done.length + 1 ∧ insCells (done ++ [(⟨rdN lq, rdN (rdL lq), rdN (rdL (rdL lq))⟩ : InsV)]) = insCells done ++ [.int .i64 (rdN lq), .int .i64 (rdN (rdL lq)), .int .i64 (rdN (rdL (rdL lq)))]) := Lib.hid ⟨by simp, by rw [insCells_append]; rfl⟩
        refine wp_region_noPanic ?_
        refine hd_begin (S := fun w' => w'.cell? ⟨F, 0, none⟩ = some (.func (.func 52) #[] #[.pointer (some ⟨N, 0, none⟩), .pointer (some ⟨D, 0, none⟩)]) ∧ w'.cell? ⟨C, 6, none⟩ = some (.slice ba bm bcap)) 12 (by kernel_rfl) (by kernel_rfl) ⟨hs.ps.fun, hs.ps.box.cells 6 _ rfl⟩ (fun hHeld => ?_)
        refine hd_take (i := 0) (v := .pointer (some ⟨C, 6, none⟩)) rfl (by kernel_rfl) (by kernel_rfl) (fun _ _ _ h => h) (Or.inl ⟨by rfl, fun w' hSw => by go_simp⟩) hHeld ?_
        try simp only [Act.put, List.setIfInBounds_toArray, List.set_cons_zero, List.set_cons_succ]
        refine hd_take (i := 1) (v := .slice ba bm bcap) rfl (by kernel_rfl) (by kernel_rfl) (fun _ _ _ h => h) (Or.inl ⟨by rfl, fun w' hSw => by (obtain ⟨s1, s2⟩ := hSw; go_simp)⟩) hHeld ?_
        try simp only [Act.put, List.setIfInBounds_toArray, List.set_cons_zero, List.set_cons_succ]
        refine hd_take (i := 2) (v := (.func (.func 52) #[] #[.pointer (some ⟨N, 0, none⟩), .pointer (some ⟨D, 0, none⟩)])) rfl (by kernel_rfl) (by kernel_rfl) (fun _ _ _ h => h) (Or.inl ⟨by rfl, fun w' hSw => by (obtain ⟨s1, s2⟩ := hSw; go_simp)⟩) hHeld ?_
        try simp only [Act.put, List.setIfInBounds_toArray, List.set_cons_zero, List.set_cons_succ]
        refine hd_take (i := 4) (v := (.func (.func 52) #[] #[.pointer (some ⟨N, 0, none⟩), .pointer (some ⟨D, 0, none⟩)])) rfl (by kernel_rfl) (by kernel_rfl) (fun _ _ _ h => h) (Or.inl ⟨by rfl, fun w' hSw => by (obtain ⟨s1, s2⟩ := hSw; go_simp)⟩) hHeld ?_
        try simp only [Act.put, List.setIfInBounds_toArray, List.set_cons_zero, List.set_cons_succ]
        refine hd_take (i := 6) (v := (.func (.func 52) #[] #[.pointer (some ⟨N, 0, none⟩), .pointer (some ⟨D, 0, none⟩)])) rfl (by kernel_rfl) (by kernel_rfl) (fun _ _ _ h => h) (Or.inl ⟨by rfl, fun w' hSw => by (obtain ⟨s1, s2⟩ := hSw; go_simp)⟩) hHeld ?_
        try simp only [Act.put, List.setIfInBounds_toArray, List.set_cons_zero, List.set_cons_succ]
        refine hd_one (i := 3) rfl (by kernel_rfl) (by decide) (fun K hK => ?_)
        go_simp
        go_at_call 52
        refine (QS.call HNE.out hM hs).mono ?_
        rintro e wk ⟨rfl, hs⟩
        refine hK.out _ _ ⟨hs.ps.fun, hs.ps.box.cells 6 _ rfl⟩ (fun hHeld => ?_)
        clear hK K
        try simp only [Act.put, List.setIfInBounds_toArray, List.set_cons_zero, List.set_cons_succ]
        refine hd_one (i := 5) rfl (by kernel_rfl) (by decide) (fun K hK => ?_)
        go_simp
        go_at_call 52
        refine (QS.call HNE.out hM hs).mono ?_
        rintro e wk ⟨rfl, hs⟩
        refine hK.out _ _ ⟨hs.ps.fun, hs.ps.box.cells 6 _ rfl⟩ (fun hHeld => ?_)
        clear hK K
        try simp only [Act.put, List.setIfInBounds_toArray, List.set_cons_zero, List.set_cons_succ]
        refine hd_one (i := 7) rfl (by kernel_rfl) (by decide) (fun K hK => ?_)
        go_simp
        go_at_call 52
        refine (QS.call HNE.out hM hs).mono ?_
        rintro e wk ⟨rfl, hs⟩
        refine hK.out _ _ ⟨hs.ps.fun, hs.ps.box.cells 6 _ rfl⟩ (fun hHeld => ?_)
        clear hK K
        try simp only [Act.put, List.setIfInBounds_toArray, List.set_cons_zero, List.set_cons_succ]
        refine hd_take (i := 8) (v := .agg #[.int .i64 (rdN lq), .int .i64 (rdN (rdL lq)), .int .i64 (rdN (rdL (rdL lq)))]) rfl (by kernel_rfl) (by kernel_rfl) (fun _ _ _ h => h) (Or.inl ⟨by rfl, fun w' hSw => by go_simp⟩) hHeld ?_
        try simp only [Act.put, List.setIfInBounds_toArray, List.set_cons_zero, List.set_cons_succ]
        refine hd_one (i := 9) rfl (by kernel_rfl) (by decide) (fun K hK => ?_)
        go_simp
        refine hK.out _ _ ⟨(PS.alloc hs.ps _).fun, (PS.alloc hs.ps _).box.cells 6 _ rfl⟩ (fun hHeld => ?_)
        clear hK K
        try simp only [Act.put, List.setIfInBounds_toArray, List.set_cons_zero, List.set_cons_succ]
        refine hd_one (i := 10) rfl (by kernel_rfl) (by decide) (fun K hK => ?_)
        refine step_append_slc _ rfl (.tmp 62) (.tmp 70) 23 rfl w10.heap.size 33 (.agg #[.int .i64 0, .int .i64 0, .int .i64 0]) 3 24 Try.underlying23 infoIns rfl (by decide) (.slice ba bm bcap) done.length (insCells done) rfl (hs.own.alloc _) _ 1 [.int .i64 (rdN lq), .int .i64 (rdN (rdL lq)), .int .i64 (rdN (rdL (rdL lq)))] rfl (SlC.fresh _ #[.int .i64 (rdN lq), .int .i64 (rdN (rdL lq)), .int .i64 (rdN (rdL (rdL lq)))] _ 1 _ (by simp) (by decide)) (by simp) (by simp [Value.oneCell']) (by unfold maxLen; omega) (by omega) (Nat.le_trans hs.size (by simp)) ?_
        intro v2 w2 hown2 hg2 hat2
        obtain ⟨a2, m2, c2, rfl⟩ := own_slice3 hown2
        rw [← HIC.out.1, ← HIC.out.2] at hown2
        have hs := QS.append HNE.out hM hs hg2 hown2
        refine hK.out _ _ ⟨hs.ps.fun, hs.ps.box.cells 6 _ rfl⟩ (fun hHeld => ?_)
        clear hK K
        try simp only [Act.put, List.setIfInBounds_toArray, List.set_cons_zero, List.set_cons_succ]
        refine hd_take (i := 11) (v := .pointer (some ⟨C, 6, none⟩)) rfl (by kernel_rfl) (by kernel_rfl) (fun _ _ _ h => h) (Or.inl ⟨by rfl, fun w' hSw => by go_simp⟩) hHeld ?_
        try simp only [Act.put, List.setIfInBounds_toArray, List.set_cons_zero, List.set_cons_succ]
        refine hd_end (by kernel_rfl) ?_
        simp only [List.drop_succ_cons, List.drop_zero]
        have qz := hs.ps.box.fz
        have q6 := hs.ps.box.cells 6 _ rfl
        clear hHeld
        go_wp2_with fail
        refine NoPanic.normal ?_
        all_goals
          go_wp2_with fail
          go_roundw
          case rel =>
            rw [Bool.false_or] at hs
            have b1 := rdL_le lq
            have b2 := rdL_le (rdL lq)
            have b3 := rdL_le (rdL (rdL lq))
            have hs2 := hs.size
            refine ⟨done ++ [⟨rdN lq, rdN (rdL lq), rdN (rdL (rdL lq))⟩], rdL (rdL (rdL lq)), _, .slice a2 m2 c2, by simp, hs.ps.rd.putC HNE.out 6 _, BoxV.cast (hs.ps.box.put 6 _) rfl, set_block (by have := HNE.out; omega) 6 _ hs.ps.blk, ownsRow_setCell_below hs.own hM _, hs.two.set (Nat.lt_succ_self C) 6 _, by simp; omega, Lib.hid (HLQ.out.step (by omega)), by simp; omega, by omega, Lib.hid (fun q hq => ?_)⟩
            rcases List.mem_append.1 hq with h | h
            · exact HDQ.out q h
            · rw [List.mem_singleton.1 h]; exact ⟨rdN_I64 _, rdN_I64 _, rdN_I64 _⟩
          case measure => simp [intOf]; omega
end Go.Proofs.Ytipfcfaigbeakaa

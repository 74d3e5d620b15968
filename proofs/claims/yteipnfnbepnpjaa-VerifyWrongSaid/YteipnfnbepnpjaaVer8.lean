/- verify's function and Check, of a module of one function. -/
import Derived.Test.YteipnfnbepnpjaaVer7
namespace Go.Proofs.Yteipnfnbepnpjaa
open Go.RowKit Go.Maps
set_option linter.unusedVariables false

/-- what is known of what is read -/
def OkI (len : Nat) (x : InsT) : Prop := x.1 < len ∧ x.2.1 < 44 ∧ x.2.2.1 ≤ 65535 ∧ x.2.2.2 ≤ 65535
theorem insOf_ok {b : Nat → Nat} {len p : Nat} (hb : ∀ i, i < len → b i < 256) (hp : p < len) (h0 : widthN (b p) ≠ 0) (h1 : ¬ len < p + widthN (b p)) : OkI len (insOf b p) := by
  have hop : b p < 44 := by
    unfold widthN at h0
    split at h0 <;> (try omega)
    split at h0 <;> (try omega)
    split at h0 <;> omega
  refine ⟨hp, hop, ?_, ?_⟩
  · show insA b p ≤ 65535
    unfold insA
    by_cases c1 : widthN (b p) < 2
    · rw [if_pos c1]; omega
    · have b1 := hb (p + 1) (by omega)
      rw [if_neg c1]
      by_cases c2 : widthN (b p) = 3 ∧ b p ≠ 35
      · have b2 := hb (p + 2) (by omega)
        rw [if_pos c2]; omega
      · rw [if_neg c2]; omega
  · show insB b p ≤ 65535
    unfold insB
    by_cases c1 : b p = 35
    · have : widthN (b p) = 3 := by rw [c1]; decide
      have b2 := hb (p + 2) (by omega)
      rw [if_pos c1]; omega
    · rw [if_neg c1]; omega
theorem rdFrom_ok {b : Nat → Nat} {len : Nat} (hb : ∀ i, i < len → b i < 256) : ∀ (f p : Nat) (acc : List InsT), (∀ x ∈ acc, OkI len x) → ∀ x ∈ (rdFrom b len f p acc).1, OkI len x
  | 0, p, acc, h => h
  | f + 1, p, acc, h => by
    by_cases hp : p < len
    · by_cases h0 : widthN (b p) = 0
      · rw [rdFrom_none hp h0]; intro x hx; cases hx
      · by_cases h1 : len < p + widthN (b p)
        · rw [rdFrom_short hp h0 h1]; intro x hx; cases hx
        · rw [rdFrom_on hp h0 h1]
          refine rdFrom_ok hb f _ _ fun x hx => ?_
          rw [List.mem_append, List.mem_singleton] at hx
          rcases hx with hx | rfl
          · exact h x hx
          · exact insOf_ok hb hp h0 h1
    · rw [rdFrom_end hp]; exact h
theorem rdFrom_length2 {b : Nat → Nat} {len : Nat} : ∀ (f p : Nat) (acc : List InsT), acc.length ≤ p → p ≤ len → (rdFrom b len f p acc).1.length ≤ len
  | 0, p, acc, h, hp => Nat.le_trans h hp
  | f + 1, p, acc, h, hp => by
    by_cases hlt : p < len
    · by_cases h0 : widthN (b p) = 0
      · rw [rdFrom_none hlt h0]; exact Nat.zero_le _
      · by_cases h1 : len < p + widthN (b p)
        · rw [rdFrom_short hlt h0 h1]; exact Nat.zero_le _
        · rw [rdFrom_on hlt h0 h1]
          refine rdFrom_length2 f _ _ ?_ (by omega)
          rw [List.length_append]
          show acc.length + 1 ≤ _
          omega
    · rw [rdFrom_end hlt]; exact Nat.le_trans h hp
/-- what function and Check do -/
def FunDone (R : Nat × Nat) (w : World) (en : Ending) (w' : World) : Prop := en = .returned (.tuple #[.int .i64 (R.1 : Nat), .int .i64 (R.2 : Nat)]) ∧ Below w.heap.size w w'
section
variable {fb loc : Nat} {ca : Option Addr} {clen ccap : Nat} {w w' : World}
theorem made_zeros (n : Nat) : (madeCells #[Value.int .i64 0] n).toList = intC (List.replicate n 0) := by
  rw [toList_madeCells_one]; unfold intC; simp
/-- the checker that function makes: the places' block mb, the heights' hb, its own pc -/
theorem ck_made {w0 w3 : World} {B pc fb mb loc hb : Nat} {cv lv : Value} {l : List InsT} (hblk : w3.heap[pc]? = some (.cells #[.int .i64 0, .slice none 0 0, .slice (some ⟨fb, 0, none⟩) 1 1, .slice none 0 0, .int .i64 0, .int .i64 (loc : Nat), cv, lv, .map (some mb), .slice (some ⟨hb, 0, none⟩) l.length l.length, .slice none 0 0] 101 (0, 0)))
    (hf : w3.cell? ⟨fb, 0, none⟩ = some (.int .i64 0)) (hr : RowS w3 4 lv l.length (cellsI l)) (hm : MapAt Try.prog w3 3 mb l.length (placeZ l l.length)) (hh : w3.heap[hb]? = some (.cells (madeCells #[Value.int .i64 0] l.length) 3 (0, 0)))
    (hll : l.length ≤ 4001) (n1 : pc ≠ fb ∧ pc ≠ mb ∧ lv.ownBlock ≠ some pc) (n2 : hb ≠ pc ∧ hb ≠ fb ∧ hb ≠ mb ∧ lv.ownBlock ≠ some hb) (b1 : B ≤ pc ∧ B ≤ hb) (bel : Below B w0 w3) :
    CkS B pc fb mb l.length loc cv lv (.slice (some ⟨hb, 0, none⟩) l.length l.length) (.slice none 0 0) l (List.replicate l.length 0) [] w0 w3 := by
  refine ⟨hblk, hf, hr, hm, ?_, RowS.nil _ _, n1, fun g hg => by cases hg; exact n2, fun g hg => (by cases hg), ⟨b1.1, fun g hg => by cases hg; exact b1.2, fun g hg => (by cases hg)⟩, bel⟩
  rw [List.length_replicate]
  refine ⟨by simp [intC], .inr ⟨hb, 0, l.length, _, _, rfl, hh, Nat.le_refl _, by unfold maxLen; omega, by simp [size_madeCells], fun j u hu => ?_⟩⟩
  rw [← made_zeros] at hu
  rw [Nat.zero_add, ← Array.getElem?_toList]
  exact hu
theorem below_d {w w4 : World} (h : Below w.drew.heap.size w.drew w4) : Below w.heap.size w w4 := ⟨h.os, h.tape, h.output, h.size, h.block⟩
theorem below_ad {w w4 : World} {o : Obj} (h : Below (w.alloc o).drew.heap.size (w.alloc o).drew w4) : Below w.heap.size w w4 :=
  (((Below.refl _ w).alloc (Nat.le_refl _) o).drew).trans (h.mono (by show w.heap.size ≤ (w.alloc o).heap.size; rw [size_alloc]; omega))
set_option maxRecDepth 100000 in
set_option maxHeartbeats 8000000 in
theorem function_any (F : Nat) (R : Nat × Nat) (b : Nat → Nat) (w : World) (hB : Bys w ca clen ccap b) (hc : clen ≤ 4000) (hfc : w.cell? ⟨fb, 0, none⟩ = some (.int .i64 0)) (hloc : loc ≤ 50) (hF : F ≤ 100000) (hR : funcN F loc b clen = some R) :
    Calls Try.prog 59 #[modV fb, .agg #[.int .i64 0, .int .i64 (loc : Nat), .slice ca clen ccap]] w (FunDone R w) := by
  unfold FunDone
  obtain ⟨w1, hw1⟩ : ∃ w1, w1 = (w.alloc (.cells #[.int .i64 0, .slice none 0 0, .slice (some ⟨fb, 0, none⟩) 1 1, .slice none 0 0] 47)).alloc (.cells #[.int .i64 0, .int .i64 (loc : Nat), .slice ca clen ccap] 61) := ⟨_, rfl⟩
  obtain ⟨gm, hgm⟩ : ∃ gm, gm = w.heap.size := ⟨_, rfl⟩
  have hgf : (w.alloc (.cells #[.int .i64 0, .slice none 0 0, .slice (some ⟨fb, 0, none⟩) 1 1, .slice none 0 0] 47)).heap.size = gm + 1 := by rw [size_alloc, hgm]
  have HB1 : Hid (Below w.heap.size w w1) := (show Below w.heap.size w w1 by rw [hw1]; exact two_alloc _ _ _)
  have HG1 : Hid (w1.heap[gm]? = some (.cells #[.int .i64 0, .slice none 0 0, .slice (some ⟨fb, 0, none⟩) 1 1, .slice none 0 0] 47 (0, 0))) := (show _ by rw [hw1, hgm, heap_alloc_lt _ _ (by rw [size_alloc]; omega)]; exact heap_alloc_at _ _)
  have HG2 : Hid (w1.heap[gm + 1]? = some (.cells #[.int .i64 0, .int .i64 (loc : Nat), .slice ca clen ccap] 61 (0, 0))) := (show _ by rw [hw1, ← hgf]; exact heap_alloc_at _ _)
  have HRD := Lib.hid (cRead_any ca clen ccap b w1 (hB.below HB1.out) (by omega))
  have HF := Lib.hid hfc
  have hfl := World.block_lt_of_cell? w _ hfc
  have HOKI : Hid (∀ x ∈ (rdAll b clen).1, OkI clen x) := (show _ from rdFrom_ok (fun i hi => hB.lt hi) _ _ _ (fun x hx => by cases hx))
  have HLEN : Hid ((rdAll b clen).1.length ≤ clen) := (show _ from rdFrom_length2 _ _ _ (Nat.le_refl _) (Nat.zero_le _))
  have HR := Lib.hid hR
  unfold funcN at HR
  generalize rdAll b clen = P at HRD HOKI HLEN HR
  obtain ⟨l, e⟩ := P
  dsimp only at HRD HOKI HLEN HR
  have HW1 := Lib.hid hw1
  have HGM := Lib.hid hgm
  unfold ReadDone at HRD
  clear hB hfc hR hw1 hgm hgf
  by_cases he : e = 0
  · subst he
    have hr2 := HR.out
    rw [if_pos rfl] at hr2
    by_cases hl0 : l.length = 0
    · rw [if_pos hl0] at hr2
      have HRE : Hid (R = (0, 11)) := (show R = (0, 11) by cases hr2; rfl)
      obtain rfl : l = [] := List.length_eq_zero_iff.1 hl0
      clear hr2 hl0
      go_enter Try.func59, Try.ntmps59
      go_wp2_with fail
      rw [← HW1.out]
      refine HRD.out.mono ?_
      rintro en w2 ⟨v, rfl, hrow, _, hb2⟩
      obtain ⟨a2, c2, rfl, _⟩ := hrow.read
      have HBE := Lib.hid (HB1.out.trans (hb2.mono HB1.out.size))
      clear hrow hb2
      go_wp2
      go_ret2
      rw [HRE.out]
      exact ⟨rfl, HBE.out⟩
    · rw [if_neg hl0] at hr2
      have HCK := Lib.hid hr2
      obtain ⟨i0, hi, hz0, hz1, hz2⟩ := info_parts intInfo1
      have hln : l.length ≤ 4000 := Nat.le_trans HLEN.out hc
      have hmk : ∀ W : World, (Instr.makeSlice 59 (.int .i64 (l.length : Nat)) (.int .i64 (l.length : Nat))).run Try.prog W = .ok (.slice (some ⟨W.heap.size, 0, none⟩) l.length l.length) (W.alloc (.cells (madeCells #[Value.int .i64 0] l.length) 3)) := by
        intro W
        have := makes_len (P := Try.prog) 59 3 i0 (.int .i64 0) Try.underlying59 hi hz0 .i64 .i64 l.length l.length (Nat.le_refl _) (by rw [hz2]; omega) (by omega) W
        rw [hz1, Nat.mul_one] at this
        exact this
      have hlz : ((l.length : Int) == 0) = false := by rw [beq_eq_false_iff_ne]; omega
      have HPL := Lib.hid (fun (v : Value) (W : World) (hr : RowS W 4 v l.length (cellsI l)) => places_any v l W hr (by omega) (fun x hx => by have := (HOKI.out x hx).1; omega))
      unfold PlacesDone at HPL
      have HCH := Lib.hid (fun (B pc mb : Nat) (cv lv hv : Value) (W : World) (c : CkS B pc fb mb l.length loc cv lv hv (.slice none 0 0) l (List.replicate l.length 0) [] w W) => check_any F R W c (by omega) (by omega) (fun x hx => by obtain ⟨a, b, c, d⟩ := HOKI.out x hx; exact ⟨by omega, b, c, d⟩) (by omega) hF HCK.out)
      unfold CheckDone at HCH
      clear hr2 hi hz0 hz1 hz2
      go_enter Try.func59, Try.ntmps59
      go_wp2_with fail
      rw [← HW1.out]
      refine HRD.out.mono ?_
      rintro en w2 ⟨v, rfl, hrow, hnew, hb2⟩
      obtain ⟨a2, c2, rfl, _⟩ := hrow.read
      have HROW := Lib.hid hrow
      have HNEW := Lib.hid hnew
      have HB2 := Lib.hid hb2
      have HS := Lib.hid (fun (W : World) (hb : Below w2.heap.size w2 W) => (show W.cell? ⟨gm, 0, none⟩ = some (.int .i64 0) ∧ W.cell? ⟨gm, 1, none⟩ = some (.slice none 0 0) ∧ W.cell? ⟨gm, 2, none⟩ = some (.slice (some ⟨fb, 0, none⟩) 1 1) ∧ W.cell? ⟨gm, 3, none⟩ = some (.slice none 0 0) ∧ W.cell? ⟨gm + 1, 0, none⟩ = some (.int .i64 0) ∧ W.cell? ⟨gm + 1, 1, none⟩ = some (.int .i64 (loc : Nat)) ∧ W.cell? ⟨gm + 1, 2, none⟩ = some (.slice ca clen ccap) by
        have k1 := Keeps.of_below (hb2.trans (hb.mono hb2.size)) (Nat.le_refl _) []
        have h1 := k1.at HG1.out List.not_mem_nil
        have h2 := k1.at HG2.out List.not_mem_nil
        exact ⟨cell_of_block h1, cell_of_block h1, cell_of_block h1, cell_of_block h1, cell_of_block h2, cell_of_block h2, cell_of_block h2⟩))
      obtain ⟨m0, m1, m2, m3, f0, f1, f2⟩ := HS.out w2 (Below.refl _ _)
      have HRK := Lib.hid (fun (W : World) (hb : Below w2.heap.size w2 W) => HROW.out.keeps (Keeps.of_below hb (Nat.le_refl _) []) fun _ _ => List.not_mem_nil)
      rw [← HGM.out]
      clear hrow hnew hb2
      go_wp2_with fail
      go_region_held3 (fun W => W.cell? ⟨gm, 0, none⟩ = some (.int .i64 0) ∧ W.cell? ⟨gm, 1, none⟩ = some (.slice none 0 0) ∧ W.cell? ⟨gm, 2, none⟩ = some (.slice (some ⟨fb, 0, none⟩) 1 1) ∧ W.cell? ⟨gm, 3, none⟩ = some (.slice none 0 0) ∧ W.cell? ⟨gm + 1, 0, none⟩ = some (.int .i64 0) ∧ W.cell? ⟨gm + 1, 1, none⟩ = some (.int .i64 (loc : Nat)) ∧ W.cell? ⟨gm + 1, 2, none⟩ = some (.slice ca clen ccap))
        (first | go_keep | exact q4)
        (first | (go_at_call 62
                  refine (HPL.out _ _ (HRK.out _ (by first | exact (Below.refl _ _).drew | exact ((Below.refl _ _).alloc (Nat.le_refl _) _).drew))).mono ?_
                  rintro en w4 ⟨mb, rfl, hmp, hmb, hb4⟩
                  have b4 : Below w2.heap.size w2 w4 := by first | exact below_d hb4 | exact below_ad hb4
                  have q4 := HS.out w4 b4))
      · have CK : CkS w.heap.size (w4.heap.size + 1) fb mb l.length loc (.slice ca clen ccap) (.slice a2 l.length c2) (.slice (some ⟨w4.heap.size, 0, none⟩) l.length l.length) (.slice none 0 0) l (List.replicate l.length 0) [] w ((w4.alloc (.cells (madeCells #[Value.int .i64 0] l.length) 3)).alloc (.cells #[.int .i64 0, .slice none 0 0, .slice (some ⟨fb, 0, none⟩) 1 1, .slice none 0 0, .int .i64 0, .int .i64 (loc : Nat), .slice ca clen ccap, .slice a2 l.length c2, .map (some mb), .slice (some ⟨w4.heap.size, 0, none⟩) l.length l.length, .slice none 0 0] 101)) := (show _ by
          have hmb2 : w2.heap.size ≤ mb := hmb
          have hbW : Below w4.heap.size w4 ((w4.alloc (.cells (madeCells #[Value.int .i64 0] l.length) 3)).alloc (.cells #[.int .i64 0, .slice none 0 0, .slice (some ⟨fb, 0, none⟩) 1 1, .slice none 0 0, .int .i64 0, .int .i64 (loc : Nat), .slice ca clen ccap, .slice a2 l.length c2, .map (some mb), .slice (some ⟨w4.heap.size, 0, none⟩) l.length l.length, .slice none 0 0] 101)) := two_alloc _ _ _
          have hP : ((w4.alloc (.cells (madeCells #[Value.int .i64 0] l.length) 3)).alloc (.cells #[.int .i64 0, .slice none 0 0, .slice (some ⟨fb, 0, none⟩) 1 1, .slice none 0 0, .int .i64 0, .int .i64 (loc : Nat), .slice ca clen ccap, .slice a2 l.length c2, .map (some mb), .slice (some ⟨w4.heap.size, 0, none⟩) l.length l.length, .slice none 0 0] 101)).heap[w4.heap.size + 1]? = some (.cells #[.int .i64 0, .slice none 0 0, .slice (some ⟨fb, 0, none⟩) 1 1, .slice none 0 0, .int .i64 0, .int .i64 (loc : Nat), .slice ca clen ccap, .slice a2 l.length c2, .map (some mb), .slice (some ⟨w4.heap.size, 0, none⟩) l.length l.length, .slice none 0 0] 101 (0, 0)) := by
            rw [← size_alloc w4 (.cells (madeCells #[Value.int .i64 0] l.length) 3)]; exact heap_alloc_at _ _
          have hH : ((w4.alloc (.cells (madeCells #[Value.int .i64 0] l.length) 3)).alloc (.cells #[.int .i64 0, .slice none 0 0, .slice (some ⟨fb, 0, none⟩) 1 1, .slice none 0 0, .int .i64 0, .int .i64 (loc : Nat), .slice ca clen ccap, .slice a2 l.length c2, .map (some mb), .slice (some ⟨w4.heap.size, 0, none⟩) l.length l.length, .slice none 0 0] 101)).heap[w4.heap.size]? = some (.cells (madeCells #[Value.int .i64 0] l.length) 3 (0, 0)) := by
            rw [heap_alloc_lt _ _ (by rw [size_alloc]; omega)]; exact heap_alloc_at _ _
          have hw2 : w.heap.size ≤ w2.heap.size := Nat.le_trans HB1.out.size HB2.out.size
          have hw4 := b4.size
          have hml := hmp.lt
          have hb5 : Below w4.heap.size w4 ((w4.alloc (.cells (madeCells #[Value.int .i64 0] l.length) 3)).alloc (.cells #[.int .i64 0, .slice none 0 0, .slice (some ⟨fb, 0, none⟩) 1 1, .slice none 0 0, .int .i64 0, .int .i64 (loc : Nat), .slice ca clen ccap, .slice a2 l.length c2, .map (some mb), .slice (some ⟨w4.heap.size, 0, none⟩) l.length l.length, .slice none 0 0] 101)) := hbW
          have kk := Keeps.of_below (b4.trans (hb5.mono hw4)) (Nat.le_refl _) []
          refine ck_made hP ((((HB1.out.trans (HB2.out.mono HB1.out.size)).trans ((b4.trans (hb5.mono hw4)).mono hw2)).cell (p := ⟨fb, 0, none⟩) hfl).trans HF.out) (HROW.out.keeps kk fun _ _ => List.not_mem_nil) (hmp.keeps (Keeps.of_below hb5 (Nat.le_refl _) []) List.not_mem_nil) hH (by omega) ⟨by omega, by omega, fun e => ?_⟩ ⟨by omega, by omega, by omega, fun e => ?_⟩ ⟨by omega, by omega⟩ ((HB1.out.trans (HB2.out.mono HB1.out.size)).trans ((b4.trans (hb5.mono hw4)).mono hw2))
          · have := HROW.out.lt _ e; omega
          · have := HROW.out.lt _ e; omega)
        have HCC := Lib.hid (HCH.out _ _ _ _ _ _ _ CK)
        clear CK hmp hmb hb4 b4 q4
        go_wp2_with fail
        refine HCC.out.mono ?_
        rintro en w5 ⟨rfl, hb5⟩
        go_wp2
        go_ret2
        exact ⟨rfl, hb5⟩
      · have CK : CkS w.heap.size (w4.heap.size) fb mb l.length loc (.slice ca clen ccap) (.slice a2 l.length c2) (.slice (some ⟨w2.heap.size, 0, none⟩) l.length l.length) (.slice none 0 0) l (List.replicate l.length 0) [] w (w4.alloc (.cells #[.int .i64 0, .slice none 0 0, .slice (some ⟨fb, 0, none⟩) 1 1, .slice none 0 0, .int .i64 0, .int .i64 (loc : Nat), .slice ca clen ccap, .slice a2 l.length c2, .map (some mb), .slice (some ⟨w2.heap.size, 0, none⟩) l.length l.length, .slice none 0 0] 101)) := (show _ by
          have hmb2 : w2.heap.size + 1 ≤ mb := by rw [← size_alloc w2 (.cells (madeCells #[Value.int .i64 0] l.length) 3)]; exact hmb
          have hbW : Below w4.heap.size w4 (w4.alloc (.cells #[.int .i64 0, .slice none 0 0, .slice (some ⟨fb, 0, none⟩) 1 1, .slice none 0 0, .int .i64 0, .int .i64 (loc : Nat), .slice ca clen ccap, .slice a2 l.length c2, .map (some mb), .slice (some ⟨w2.heap.size, 0, none⟩) l.length l.length, .slice none 0 0] 101)) := (Below.refl _ _).alloc (Nat.le_refl _) _
          have hP : (w4.alloc (.cells #[.int .i64 0, .slice none 0 0, .slice (some ⟨fb, 0, none⟩) 1 1, .slice none 0 0, .int .i64 0, .int .i64 (loc : Nat), .slice ca clen ccap, .slice a2 l.length c2, .map (some mb), .slice (some ⟨w2.heap.size, 0, none⟩) l.length l.length, .slice none 0 0] 101)).heap[w4.heap.size]? = some (.cells #[.int .i64 0, .slice none 0 0, .slice (some ⟨fb, 0, none⟩) 1 1, .slice none 0 0, .int .i64 0, .int .i64 (loc : Nat), .slice ca clen ccap, .slice a2 l.length c2, .map (some mb), .slice (some ⟨w2.heap.size, 0, none⟩) l.length l.length, .slice none 0 0] 101 (0, 0)) := heap_alloc_at _ _
          have hsz4 : w2.heap.size + 1 ≤ w4.heap.size := by rw [← size_alloc w2 (.cells (madeCells #[Value.int .i64 0] l.length) 3)]; exact hb4.size
          have hH : (w4.alloc (.cells #[.int .i64 0, .slice none 0 0, .slice (some ⟨fb, 0, none⟩) 1 1, .slice none 0 0, .int .i64 0, .int .i64 (loc : Nat), .slice ca clen ccap, .slice a2 l.length c2, .map (some mb), .slice (some ⟨w2.heap.size, 0, none⟩) l.length l.length, .slice none 0 0] 101)).heap[w2.heap.size]? = some (.cells (madeCells #[Value.int .i64 0] l.length) 3 (0, 0)) := by
            rw [heap_alloc_lt _ _ (by omega)]
            exact (hb4.block w2.heap.size (by show w2.heap.size < (w2.alloc _).heap.size; rw [size_alloc]; omega)).trans (heap_alloc_at _ _)
          have hw2 : w.heap.size ≤ w2.heap.size := Nat.le_trans HB1.out.size HB2.out.size
          have hw4 := b4.size
          have hml := hmp.lt
          have hb5 : Below w4.heap.size w4 (w4.alloc (.cells #[.int .i64 0, .slice none 0 0, .slice (some ⟨fb, 0, none⟩) 1 1, .slice none 0 0, .int .i64 0, .int .i64 (loc : Nat), .slice ca clen ccap, .slice a2 l.length c2, .map (some mb), .slice (some ⟨w2.heap.size, 0, none⟩) l.length l.length, .slice none 0 0] 101)) := hbW
          have kk := Keeps.of_below (b4.trans (hb5.mono hw4)) (Nat.le_refl _) []
          refine ck_made hP ((((HB1.out.trans (HB2.out.mono HB1.out.size)).trans ((b4.trans (hb5.mono hw4)).mono hw2)).cell (p := ⟨fb, 0, none⟩) hfl).trans HF.out) (HROW.out.keeps kk fun _ _ => List.not_mem_nil) (hmp.keeps (Keeps.of_below hb5 (Nat.le_refl _) []) List.not_mem_nil) hH (by omega) ⟨by omega, by omega, fun e => ?_⟩ ⟨by omega, by omega, by omega, fun e => ?_⟩ ⟨by omega, by omega⟩ ((HB1.out.trans (HB2.out.mono HB1.out.size)).trans ((b4.trans (hb5.mono hw4)).mono hw2))
          · have := HROW.out.lt _ e; omega
          · have := HROW.out.lt _ e; omega)
        have HCC := Lib.hid (HCH.out _ _ _ _ _ _ _ CK)
        clear CK hmp hmb hb4 b4 q4
        go_wp2_with fail
        refine HCC.out.mono ?_
        rintro en w5 ⟨rfl, hb5⟩
        go_wp2
        go_ret2
        exact ⟨rfl, hb5⟩
  · have HRE : Hid (R = (0, e)) := (show R = (0, e) by have := HR.out; rw [if_neg he] at this; cases this; rfl)
    have hbn : ((e : Int) != 0) = true := by rw [bne_iff_ne]; omega
    clear he
    go_enter Try.func59, Try.ntmps59
    go_wp2_with fail
    rw [← HW1.out]
    refine HRD.out.mono ?_
    rintro en w2 ⟨v, rfl, hrow, _, hb2⟩
    obtain ⟨a2, c2, rfl, _⟩ := hrow.read
    have HBE := Lib.hid (HB1.out.trans (hb2.mono HB1.out.size))
    clear hrow hb2
    go_wp2
    go_ret2
    rw [HRE.out]
    exact ⟨rfl, HBE.out⟩
end
end Go.Proofs.Yteipnfnbepnpjaa

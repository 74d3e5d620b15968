/- code's Read computes what it says. -/
import Derived.Test.YteipnfnbepnpjaaCodeRead1
import Derived.Test.YteipnfnbepnpjaaRow
namespace Go.Proofs.Yteipnfnbepnpjaa
open Go.RowKit
set_option linter.unusedVariables false

theorem cread_any (b : Nat → Nat) (p g o cap : Nat) (w : World) (h : ∀ i, i < widthN (b p) → b (p + i) < 256 ∧ w.cell? ⟨g, o + i, none⟩ = some (.int .u8 (b (p + i) : Nat))) (h0 : widthN (b p) ≠ 0) :
    Calls Try.prog 39 #[.slice (some ⟨g, o, none⟩) (widthN (b p)) cap, .int .i64 (p : Nat)] w fun e w' => e = .returned (insV (insOf b p)) ∧ Below w.heap.size w w' := by
  have hle := widthN_le (b p)
  obtain ⟨b0, c0⟩ := h 0 (by omega)
  rw [Nat.add_zero] at b0 c0
  rw [Nat.add_zero] at c0
  rcases (by omega : widthN (b p) = 1 ∨ widthN (b p) = 2 ∨ widthN (b p) = 3) with h1 | h1 | h1
  · have := cread1 p (b p) g o cap w b0 c0
    have h35 : b p ≠ 35 := by intro e; rw [e] at h1; revert h1; decide
    unfold insOf insA insB insV
    rw [h1, if_pos (by omega), if_neg h35]
    exact this
  · obtain ⟨b1, c1⟩ := h 1 (by omega)
    have := cread2 p (b p) (b (p + 1)) g o cap w b0 b1 c0 c1
    have h35 : b p ≠ 35 := by intro e; rw [e] at h1; revert h1; decide
    unfold insOf insA insB insV
    rw [h1, if_neg (by omega), if_neg (by omega), if_neg h35]
    exact this
  · obtain ⟨b1, c1⟩ := h 1 (by omega)
    obtain ⟨b2, c2⟩ := h 2 (by omega)
    unfold insOf insA insB insV
    by_cases h35 : b p = 35
    · rw [h35] at c0
      have := cread3c p (b (p + 1)) (b (p + 2)) g o cap w b1 b2 c0 c1 c2
      rw [h1, if_neg (by omega), if_neg (by omega), if_pos h35, h35]
      exact this
    · have := cread3 p (b p) (b (p + 1)) (b (p + 2)) g o cap w b0 b1 b2 h35 c0 c1 c2
      rw [h1, if_neg (by omega), if_pos ⟨rfl, h35⟩, if_neg h35]
      exact this

/-- what Read does -/
def ReadDone (R : List InsT × Nat) (w : World) (en : Ending) (w' : World) : Prop :=
  ∃ v, en = .returned (.tuple #[v, .int .i64 (R.2 : Nat)]) ∧ RowS w' 4 v R.1.length (cellsI R.1) ∧ (∀ g, v.ownBlock = some g → w.heap.size ≤ g) ∧ Below w.heap.size w w'
/-- where Read stands -/
structure RdAt (w : World) (b : Nat → Nat) (len : Nat) (R : List InsT × Nat) (v : Value) (p : Nat) (acc : List InsT) (wr : World) : Prop where
  row : RowS wr 4 v acc.length (cellsI acc)
  new : ∀ g, v.ownBlock = some g → w.heap.size ≤ g
  bel : Below w.heap.size w wr
  val : rdFrom b len (len + 1 - acc.length) p acc = R
  le : acc.length ≤ p
theorem insInfo : (Try.prog.info? 30).map (fun i => (i.zero, i.size, i.bytes)) = some (some (.agg #[.int .i64 0, .int .i64 0, .int .i64 0, .int .i64 0]), 4, 32) := by kernel_rfl
theorem new_four (w : World) (a b c d : Value) (t : TypeId) : Src (w.alloc (.cells #[a, b, c, d] t)) (.slice (some ⟨w.heap.size, 0, none⟩) 1 1) 1 4 [a, b, c, d] := by
  refine .inr ⟨_, _, rfl, rfl, fun j x hx => ?_⟩
  have h := cell_of_block (i := j) (heap_alloc_at w (.cells #[a, b, c, d] t))
  have e : (⟨w.heap.size, 0, none⟩ : Addr).add j = ⟨w.heap.size, j, none⟩ := by unfold Addr.add; split <;> simp_all
  rw [e, h, ← hx]
  simp
theorem ints_one (a b c d : Int) : ∀ x ∈ [Value.int .i64 a, .int .i64 b, .int .i64 c, .int .i64 d], x.oneCell' = true := by
  intro x hx
  simp at hx
  rcases hx with rfl | rfl | rfl | rfl <;> rfl
theorem RdAt.start (w : World) (b : Nat → Nat) (len : Nat) : RdAt w b len (rdAll b len) (.slice none 0 0) 0 [] w :=
  ⟨RowS.nil _ _, (fun _ h => by cases h), Below.refl _ _, rfl, Nat.le_refl _⟩
theorem below_row {B : Nat} {w w1 w2 : World} (h : Below B w w1) {row : Option Nat} (hg : w1.grownBy w2 row) (hB : B ≤ w1.heap.size) (hr : ∀ g, row = some g → B ≤ g) : Below B w w2 :=
  h.trans ⟨hg.os, hg.tape, hg.output, hg.size, fun k hk => hg.block k (by omega) (fun e => by have := hr k e.symm; omega)⟩
theorem RdAt.step {w wr w1 w2 : World} {b : Nat → Nat} {len p : Nat} {R : List InsT × Nat} {v v2 : Value} {acc : List InsT} (h : RdAt w b len R v p acc wr) (hlt : p < len) (h0 : widthN (b p) ≠ 0) (h1 : ¬ len < p + widthN (b p))
    (hb : Below wr.heap.size wr w1) {ob : Obj} (hr : RowS w2 4 v2 (acc.length + 1) (cellsI acc ++ insCells (insOf b p))) (hg : (w1.alloc ob).grownBy w2 v.ownBlock) (hv : v2.ownBlock = v.ownBlock ∨ ∃ g, v2.ownBlock = some g ∧ (w1.alloc ob).heap.size ≤ g) :
    RdAt w b len R v2 (p + widthN (b p)) (acc ++ [insOf b p]) w2 := by
  have hw1 : w.heap.size ≤ w1.heap.size := Nat.le_trans h.bel.size hb.size
  refine ⟨by rw [List.length_append, cellsI_snoc]; exact hr, fun g hg' => ?_, below_row ((h.bel.trans (hb.mono h.bel.size)).alloc hw1 ob) hg (by rw [size_alloc]; omega) h.new, ?_, ?_⟩
  · rcases hv with hv | ⟨g', hv, hge⟩
    · exact h.new g (by rw [← hv]; exact hg')
    · rw [hv] at hg'; cases hg'; rw [size_alloc] at hge; omega
  · have hl := h.le
    rw [← h.val, List.length_append, show len + 1 - acc.length = (len + 1 - (acc.length + 1)) + 1 by omega, rdFrom_on hlt h0 h1]
    rfl
  · have hl := h.le
    rw [List.length_append]
    show acc.length + 1 ≤ _
    omega
theorem RdAt.keep {w wr w1 : World} {b : Nat → Nat} {len p : Nat} {R : List InsT × Nat} {v : Value} {acc : List InsT} (h : RdAt w b len R v p acc wr) (hb : Below wr.heap.size wr w1) : RowS w1 4 v acc.length (cellsI acc) :=
  h.row.keeps (Keeps.of_below hb (Nat.le_refl _) []) fun _ _ => List.not_mem_nil

set_option maxRecDepth 100000 in
set_option maxHeartbeats 1000000 in
theorem cRead_pos (g off len cap : Nat) (b : Nat → Nat) (w : World) (hcap : len ≤ cap) (hmax : len ≤ 4398046511104) (hm : cap ≤ 9223372036854775807) (hpos : 0 < len) (hg : g < w.heap.size) (hc : ∀ i, i < len → b i < 256 ∧ w.cell? ⟨g, off + i, none⟩ = some (.int .u8 (b i : Nat))) :
    Calls Try.prog 19 #[.slice (some ⟨g, off, none⟩) len cap] w (ReadDone (rdAll b len) w) := by
  have HS0 := Lib.hid (RdAt.start w b len)
  generalize rdAll b len = R at HS0 ⊢
  have HC := Lib.hid hc
  have HG := Lib.hid hg
  clear hc hg
  obtain ⟨i0, hi, hz0, hz1, hz2⟩ := info_parts insInfo
  have HI := Lib.hid hi
  have HZ0 := Lib.hid hz0
  have HZ1 := Lib.hid hz1
  have HZ2 := Lib.hid hz2
  clear hi hz0 hz1 hz2
  go_enter Try.func19, Try.ntmps19
  go_wp2
  go_loopw [4, 5] (fun v i wr => ∃ (p : Nat) (acc : List InsT), i = .int .i64 p ∧ p ≤ len ∧ Hid (RdAt w b len R v p acc wr)) (fun _ i _ => len - (intOf i).toNat)
  case atStart => exact ⟨0, [], rfl, Nat.zero_le _, HS0⟩
  case round =>
    obtain ⟨p, acc, rfl, hp, hs⟩ := hrel
    by_cases hlt : p < len
    · obtain ⟨hb, hcell⟩ := HC.out p hlt
      have c0 : wr.cell? ⟨g, off + p, none⟩ = some (.int .u8 (b p : Nat)) := (hs.out.bel.cell (p := ⟨g, off + p, none⟩) HG.out).trans hcell
      clear hcell
      have hle := widthN_le (b p)
      have hbi : (b p : Int) < 256 := by omega
      have HW := Lib.hid (fun w => width_any (b p : Nat) w)
      rw [widthZ_nat] at HW
      by_cases h0 : widthN (b p) = 0
      · have hR : R = ([], 8) := by
          have hl := hs.out.le
          rw [← hs.out.val, show len + 1 - acc.length = (len - acc.length) + 1 by omega]
          exact rdFrom_none hlt h0
        subst hR
        rw [h0] at HW
        clear h0 hle
        go_wp2_with fail
        refine (HW.out _).mono ?_
        rintro e w' ⟨rfl, rfl⟩
        go_wp2
        go_ret2
        exact ⟨.slice none 0 0, rfl, RowS.nil _ _, (fun _ h => by cases h), hs.out.bel⟩
      · by_cases h1 : len < p + widthN (b p)
        · have hR : R = ([], 7) := by
            have hl := hs.out.le
            rw [← hs.out.val, show len + 1 - acc.length = (len - acc.length) + 1 by omega]
            exact rdFrom_short hlt h0 h1
          subst hR
          obtain ⟨n, hn⟩ : ∃ n, n = widthN (b p) := ⟨_, rfl⟩
          rw [← hn] at HW h0 h1 hle
          have hz : ((n : Int) == 0) = false := by simpa using h0
          clear hn h0
          go_wp2_with fail
          refine (HW.out _).mono ?_
          rintro e w' ⟨rfl, rfl⟩
          go_wp2
          go_ret2
          exact ⟨.slice none 0 0, rfl, RowS.nil _ _, (fun _ h => by cases h), hs.out.bel⟩
        · have HRd : Hid (∀ cap, Calls Try.prog 39 #[.slice (some ⟨g, off + p, none⟩) (widthN (b p)) cap, .int .i64 (p : Nat)] wr fun e w' => e = .returned (insV (insOf b p)) ∧ Below wr.heap.size wr w') := (show ∀ cap, Calls Try.prog 39 #[.slice (some ⟨g, off + p, none⟩) (widthN (b p)) cap, .int .i64 (p : Nat)] wr fun e w' => e = .returned (insV (insOf b p)) ∧ Below wr.heap.size wr w' from fun cap =>
            cread_any b p g (off + p) cap wr (fun i hi => by
              obtain ⟨q1, q2⟩ := HC.out (p + i) (by omega)
              refine ⟨q1, ?_⟩
              rw [Nat.add_assoc]
              exact (hs.out.bel.cell (p := ⟨g, off + (p + i), none⟩) HG.out).trans q2) h0)
          have HST := Lib.hid (fun (w1 w2 : World) (v2 : Value) (ob : Obj) => hs.out.step (w1 := w1) (w2 := w2) (v2 := v2) (ob := ob) hlt h0 h1)
          obtain ⟨x, hx⟩ : ∃ x, x = insOf b p := ⟨_, rfl⟩
          rw [← hx] at HRd HST
          obtain ⟨n, hn⟩ : ∃ n, n = widthN (b p) := ⟨_, rfl⟩
          rw [← hn] at HW HRd HST h0 h1 hle
          have hz : ((n : Int) == 0) = false := by simpa using h0
          clear hn hx
          unfold insV at HRd
          go_wp2_with fail
          refine (HW.out _).mono ?_
          rintro e w' ⟨rfl, rfl⟩
          go_wp2_with fail
          refine (HRd.out _).mono ?_
          rintro e w1 ⟨rfl, hb1⟩
          have HB1 := Lib.hid hb1
          have HK := Lib.hid (hs.out.keep hb1)
          have HLL := Lib.hid hs.out.le
          clear hb1
          have HO1 : Hid (acc.length + 1 ≤ maxLen) := (show acc.length + 1 ≤ maxLen by have := HLL.out; unfold maxLen; omega)
          have HO2 : Hid ((acc.length + 1) * 32 ≤ 140737488355328) := (show (acc.length + 1) * 32 ≤ 140737488355328 by have := HLL.out; omega)
          have e3 : Hid (w1.heap.size + 1 = (w1.alloc (.cells #[.int .i64 (x.1 : Nat), .int .i64 (x.2.1 : Nat), .int .i64 (x.2.2.1 : Nat), .int .i64 (x.2.2.2 : Nat)] 30)).heap.size) := (size_alloc _ _).symm
          go_wp2_with (at_builtin; refine wpList_row (by rfl) (.tmp 27) (.tmp 36) 25 rfl 30 i0 (.agg #[.int .i64 0, .int .i64 0, .int .i64 0, .int .i64 0]) 4 32 Try.underlying25 HI.out HZ0.out HZ1.out HZ2.out rfl (by decide) u4 acc.length (cellsI acc) rfl (HK.out.keeps ((Keeps.refl [] _).alloc _) (fun _ _ => List.not_mem_nil)) (.slice (some ⟨w1.heap.size, 0, none⟩) 1 1) 1 [.int .i64 (x.1 : Nat), .int .i64 (x.2.1 : Nat), .int .i64 (x.2.2.1 : Nat), .int .i64 (x.2.2.2 : Nat)] rfl (new_four _ _ _ _ _ _) (ints_one _ _ _ _) HO1.out HO2.out ?_)
          intro v2 w2 hr2 hg2 hv2
          rw [e3.out] at hv2
          have HS2 := Lib.hid (HST.out w1 w2 v2 _ HB1.out hr2 hg2 hv2)
          clear hr2 hg2 hv2
          go_wp2
          go_roundw
          case rel => first | exact ⟨p + n, acc ++ [x], by go_num, by omega, HS2⟩ | ((repeat apply Exists.intro); exact ⟨⟨p + n, acc ++ [x], by go_num, by omega, HS2⟩, rfl⟩)
          case measure => simp [intOf]; omega
    · obtain rfl : p = len := by omega
      have hR : R = (acc, 0) := by rw [← hs.out.val]; exact rdFrom_end hlt
      subst hR
      clear hlt
      go_wp2
      go_ret2
      exact ⟨u4, rfl, hs.out.row, hs.out.new, hs.out.bel⟩
end Go.Proofs.Yteipnfnbepnpjaa

/- The walk of the law CodeReads: it answers true for every input. -/
import Derived.Test.YteipnfnbepnpjaaCodeSame
import Derived.Test.YteipnfnbepnpjaaCodeRef
import Derived.Test.YteipnfnbepnpjaaOpen
namespace Go.Proofs.Yteipnfnbepnpjaa
open Go.RowKit
set_option linter.unusedVariables false

theorem below_drewN {B : Nat} {a w : World} (h : Below B a w) (n : Nat) : Below B a (w.drewN n) := ⟨h.os, h.tape, h.output, h.size, h.block⟩
theorem Bys.of_ints {w : World} {a : Option Addr} {len cap : Nat} {z : Nat → Int} (h : Ints .u8 w a len cap z) : Bys w a len cap (fun i => (z i).toNat) :=
  ⟨h.le, h.max, h.nil, fun i hi => by
    obtain ⟨b, off, e, hlt, hc⟩ := h.cell i hi
    have := bounds_u8 (h.wf i hi)
    exact ⟨b, off, e, hlt, by rw [hc, Int.toNat_of_nonneg this.1]⟩, fun i hi => by
    have := bounds_u8 (h.wf i hi)
    rw [Int.toNat_of_nonneg this.1]
    exact h.wf i hi⟩
theorem Bys.src {w : World} {a : Option Addr} {len cap : Nat} {b : Nat → Nat} (h : Bys w a len cap b) : Src w (.slice a len cap) len 1 (byteCells ((List.range len).map b)) := by
  have := Ints.src h
  unfold byteCells
  rw [List.map_map]
  exact this
theorem rd_some {b : Nat → Nat} {len : Nat} {R : List InsT × Nat} (hb : ∀ i, i < len → b i < 256) (h : rdAll b len = R) (h0 : R.2 = 0) : wrFrom (toQ R.1) [] = ((List.range len).map b, 0) :=
  wr_rd hb (h.trans (by rw [← h0]))
theorem rdFrom_length {b : Nat → Nat} {len : Nat} : ∀ (f p : Nat) (acc : List InsT), (rdFrom b len f p acc).1.length ≤ acc.length + f
  | 0, p, acc => Nat.le_refl _
  | f + 1, p, acc => by
    by_cases hlt : p < len
    · by_cases h0 : widthN (b p) = 0
      · rw [rdFrom_none hlt h0]; exact Nat.zero_le _
      · by_cases h1 : len < p + widthN (b p)
        · rw [rdFrom_short hlt h0 h1]; exact Nat.zero_le _
        · rw [rdFrom_on hlt h0 h1]
          have := rdFrom_length (b := b) (len := len) f (p + widthN (b p)) (acc ++ [insOf b p])
          rw [List.length_append] at this
          simp only [List.length_cons, List.length_nil] at this
          omega
    · rw [rdFrom_end hlt]; show acc.length ≤ _; omega
theorem rdAll_length (b : Nat → Nat) (len : Nat) : (rdAll b len).1.length ≤ len + 1 := by
  have := rdFrom_length (b := b) (len := len) (len + 1) 0 []
  rw [List.length_nil, Nat.zero_add] at this
  exact this
theorem codeReads.out (a0 : Option Addr) (len0 cap0 : Nat) (w : World) (h : 1000 < len0) (hc : len0 ≤ 9223372036854775807) :
    Calls Try.prog 5 #[.slice a0 len0 cap0] w fun e w' => e = .returned (.bool true) ∧ Below w.heap.size w w' := by
  go_enter Try.func5, Try.ntmps5
  go_wp2_with (go_at_call 15; refine (alive19 _).mono ?_; rintro e w1 ⟨rfl, hb⟩)
  go_ret
  exact ⟨rfl, by assumption⟩
set_option maxRecDepth 100000 in
set_option maxHeartbeats 2000000 in
theorem codeReads.inside (a0 : Option Addr) (len0 cap0 : Nat) (b : Nat → Nat) (w : World) (hB : Bys w a0 len0 cap0 b) (h : len0 ≤ 1000) :
    Calls Try.prog 5 #[.slice a0 len0 cap0] w fun e w' => e = .returned (.bool true) ∧ Below w.heap.size w w' := by
  have HRD := Lib.hid (fun R h0 => rd_some (R := R) (fun i hi => hB.lt hi) h0)
  have HLT := Lib.hid (fun i (hi : i < len0) => hB.lt hi)
  have HB := Lib.hid hB
  have HRE := Lib.hid (fun a cap w h => cRead_any a len0 cap b w h (by omega))
  have HRR := Lib.hid (fun w h => rRead_any a0 len0 cap0 b w h (by omega))
  clear hB
  obtain ⟨R, hR⟩ : ∃ R, R = rdAll b len0 := ⟨_, rfl⟩
  rw [← hR] at HRE HRR
  have HRQ := Lib.hid (HRD.out R hR.symm)
  have HRL : Hid (R.1.length ≤ len0 + 1) := (show R.1.length ≤ len0 + 1 by rw [hR]; exact rdAll_length _ _)
  clear hR HRD
  obtain ⟨i0, hi, hz0, hz1, hz2⟩ := info_parts byteInfo
  have HI0 := Lib.hid hi
  have HZ0 := Lib.hid hz0
  have HZ1 := Lib.hid hz1
  have HZ2 := Lib.hid hz2
  clear hi hz0 hz1 hz2
  have d0 : decide (1000 < (len0 : Int)) = false := by rw [decide_eq_false_iff_not]; omega
  have HO1 : Hid (0 + len0 ≤ maxLen) := (show 0 + len0 ≤ maxLen by unfold maxLen; omega)
  have HO2 : Hid ((0 + len0) * 1 ≤ 140737488355328) := (show (0 + len0) * 1 ≤ 140737488355328 by omega)
  go_enter Try.func5, Try.ntmps5
  go_wp2_with fail
  refine (alive19 _).mono ?_
  rintro e wa ⟨rfl, hba⟩
  have HBa := Lib.hid hba
  have HYa := Lib.hid (HB.out.below hba)
  clear hba
  go_wp2_with (at_builtin; refine wpList_row (by rfl) (.const (.slice none 0 0)) (.tmp 20) 26 rfl 5 i0 (.int .u8 0) 1 1 Try.underlying26 HI0.out HZ0.out HZ1.out HZ2.out rfl (by decide) (.slice none 0 0) 0 [] rfl (RowS.nil _ _) (.slice a0 len0 cap0) len0 (byteCells ((List.range len0).map b)) rfl HYa.out.src (byteCells_one _) HO1.out HO2.out ?_)
  intro v2 w2 hr2 hg2 hv2
  have hbr : Below wa.heap.size wa w2 := below_row (Below.refl _ _) hg2 (Nat.le_refl _) (fun g hg => by cases hg)
  have HB2 := Lib.hid (HBa.out.trans (hbr.mono HBa.out.size))
  have HY2 := Lib.hid (HYa.out.below hbr)
  have hr3 : RowS w2 1 v2 ((List.range len0).map b).length (byteCells ((List.range len0).map b)) := by simpa using hr2
  obtain ⟨a2, cap2, hva, hh2⟩ := hr3.holdsB (fun y hy => by obtain ⟨i, hi, rfl⟩ := List.mem_map.1 hy; exact HLT.out i (List.mem_range.1 hi))
  rw [List.length_map, List.length_range] at hva
  subst hva
  have hy2 : Bys w2 a2 len0 cap2 b := by
    have := hh2.bys
    simp only [List.length_map, List.length_range] at this
    exact ⟨this.le, this.max, this.nil, fun i hi => by
      obtain ⟨g, off, e, hlt, hc⟩ := this.cell i hi
      exact ⟨g, off, e, hlt, by rw [hc]; simp [hi]⟩, fun i hi => by
      have := this.wf i hi
      simpa [hi] using this⟩
  have HRE2 := Lib.hid (HRE.out _ _ _ hy2)
  clear hr2 hr3 hg2 hv2 hbr hh2 hy2 HRE
  go_wp2_with fail
  refine (HRE2.out).mono ?_
  rintro e w3 ⟨v3, rfl, hr3, _, hb3⟩
  have HB3 := Lib.hid (HB2.out.trans (hb3.mono HB2.out.size))
  have HY3 := Lib.hid (HY2.out.below hb3)
  obtain ⟨a3, cap3, rfl, hi3⟩ := hr3.holdsI
  have HI3 := Lib.hid hi3
  have HRR3 := Lib.hid (HRR.out _ HY3.out)
  clear hr3 hb3 hi3 HRR
  go_wp2_with fail
  refine (HRR3.out).mono ?_
  rintro e w4 ⟨v4, rfl, hr4, _, hb4⟩
  have HB4 := Lib.hid (HB3.out.trans (hb4.mono HB3.out.size))
  have HY4 := Lib.hid (HY3.out.below hb4)
  have HI4 := Lib.hid (HI3.out.below hb4)
  obtain ⟨a4, cap4, rfl, hj4⟩ := hr4.holdsI
  have HS4 := Lib.hid (sameIns_any _ _ _ _ _ _ _ HI4.out hj4)
  clear hr4 hb4 hj4
  go_wp2_with fail
  refine (HS4.out).mono ?_
  rintro e w5 ⟨rfl, k, rfl⟩
  have HB5 := Lib.hid (below_drewN HB4.out k)
  have hk : Below w4.heap.size w4 (w4.drewN k) := below_drewN (Below.refl _ _) k
  have HI5 := Lib.hid (HI4.out.below hk)
  have HY5 := Lib.hid (HY4.out.below hk)
  clear hk
  obtain ⟨l, er⟩ := R
  dsimp only
  have HBY := Lib.hid (cBytes_any _ _ _ _ _ _ HI5.out.insSl)
  rw [rowQ_toQ] at HBY
  by_cases h0 : er = 0
  · subst h0
    have hl : l.length ≤ 4398046511104 := by have := HRL.out; dsimp only at this; omega
    have hq := HRQ.out rfl
    dsimp only at hq
    rw [hq] at HBY
    have HBY2 := Lib.hid (HBY.out hl)
    clear hq hl HBY
    go_wp2_with fail
    refine (num19_any _ _).mono ?_
    rintro e w6 ⟨rfl, rfl⟩
    go_wp2_with fail
    refine (HBY2.out).mono ?_
    rintro e w7 ⟨v7, rfl, hr7, _, hb7⟩
    obtain ⟨a7, cap7, rfl, hh7⟩ := hr7.holdsB (fun y hy => by obtain ⟨i, hi, rfl⟩ := List.mem_map.1 hy; exact HLT.out i (List.mem_range.1 hi))
    have k1 := hh7.conv
    have k2 := (HY5.out.below hb7).holdsB.conv
    rw [List.length_map, List.length_range] at k1
    generalize strOf ((List.range len0).map b) = sb at k1 k2
    have HB7 := Lib.hid (HB5.out.trans (hb7.mono HB5.out.size))
    clear hr7 hb7 hh7
    go_wp2_with fail
    refine (num19_any _ _).mono ?_
    rintro e w8 ⟨rfl, rfl⟩
    go_wp2
    go_ret
    exact ⟨rfl, HB7.out⟩
  · have hz : ((er : Int) == 0) = false := by simpa using h0
    clear h0 HBY
    go_wp2_with fail
    refine (num19_any _ _).mono ?_
    rintro e w6 ⟨rfl, rfl⟩
    go_wp2
    go_ret
    exact ⟨rfl, HB5.out⟩
theorem codeReads.walk (a0 : Option Addr) (len0 cap0 : Nat) (z0 : Nat → Int) (w : World) (w0 : Ints .u8 w a0 len0 cap0 z0) :
    Calls Try.prog 5 #[.slice a0 len0 cap0] w fun e w' => e = .returned (.bool true) ∧ Below w.heap.size w w' := by
  by_cases h : len0 ≤ 1000
  · exact codeReads.inside a0 len0 cap0 _ w (Bys.of_ints w0) h
  · exact codeReads.out a0 len0 cap0 w (by omega) (Nat.le_trans w0.le w0.max)
end Go.Proofs.Yteipnfnbepnpjaa

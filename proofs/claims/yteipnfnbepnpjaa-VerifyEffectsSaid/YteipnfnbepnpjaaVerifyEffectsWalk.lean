/- The walk of the law VerifyEffects: it answers true for every input. -/
import Derived.Test.YteipnfnbepnpjaaVer9
namespace Go.Proofs.Yteipnfnbepnpjaa
open Go.RowKit Go.Maps
set_option linter.unusedVariables false

def takesL : List Nat := [0, 0, 0, 0, 0, 1, 1, 0, 1, 0, 1, 2, 2, 2, 2, 2, 2, 2, 1, 0, 1, 1, 1, 3, 0, 2, 3, 1, 2, 0, 1, 2, 1, 1, 2, 4, 4, 1, 1, 1, 0, 0, 1, 0]
def leavesL : List Nat := [0, 1, 1, 1, 1, 0, 2, 1, 0, 1, 0, 1, 1, 1, 1, 1, 1, 1, 1, 0, 0, 1, 0, 1, 1, 1, 0, 1, 0, 1, 1, 0, 1, 1, 0, 1, 1, 1, 1, 0, 0, 0, 0, 1]
theorem tables : ∀ op, op < 44 → takesL[op]? = some (effN 1 op 3 4).1 ∧ leavesL[op]? = some (effN 1 op 3 4).2 := by decide
theorem natC_at {l : List Nat} {i x : Nat} (h : l[i]? = some x) : (natC l).toArray[i]? = some (.int .i64 (x : Nat)) := by
  rw [List.getElem?_toArray]; unfold natC intC; rw [List.getElem?_map, List.getElem?_map, h]; rfl
theorem alloc4 (w : World) (a b c d : Obj) : ((((w.alloc a).alloc b).alloc c).alloc d).heap[w.heap.size]? = some a ∧ ((((w.alloc a).alloc b).alloc c).alloc d).heap[w.heap.size + 1]? = some b ∧ ((((w.alloc a).alloc b).alloc c).alloc d).heap[w.heap.size + 2]? = some c ∧ Below w.heap.size w ((((w.alloc a).alloc b).alloc c).alloc d) := by
  have s1 : (w.alloc a).heap.size = w.heap.size + 1 := size_alloc _ _
  have s2 : ((w.alloc a).alloc b).heap.size = w.heap.size + 2 := by rw [size_alloc, s1]
  have s3 : (((w.alloc a).alloc b).alloc c).heap.size = w.heap.size + 3 := by rw [size_alloc, s2]
  refine ⟨?_, ?_, ?_, (((((Below.refl _ w).alloc (Nat.le_refl _) a).alloc (by omega) b).alloc (by omega) c).alloc (by omega) d)⟩
  · rw [heap_alloc_lt _ _ (by omega), heap_alloc_lt _ _ (by omega), heap_alloc_lt _ _ (by omega)]; exact heap_alloc_at _ _
  · rw [heap_alloc_lt _ _ (by omega), heap_alloc_lt _ _ (by omega), ← s1]; exact heap_alloc_at _ _
  · rw [heap_alloc_lt _ _ (by omega), ← s2]; exact heap_alloc_at _ _
/-- the memory that the law makes -/
def efW (w : World) : World := (((w.alloc (.cells (natC takesL).toArray 3)).alloc (.cells (natC leavesL).toArray 3)).alloc (.cells #[.int .i64 0, .int .i64 0, .slice none 0 0, .int .i64 0, .int .i64 0, .slice none 0 0, .int .i64 0, .int .i64 0, .slice none 0 0, .int .i64 1, .int .i64 1, .slice none 0 0] 61)).alloc (.cells #[.int .i64 0, .slice none 0 0, .slice (some ⟨w.heap.size + 2, 0, none⟩) 4 4, .slice none 0 0] 47)
theorem efW_facts (w : World) (op : Nat) (hop : op < 44) : (efW w).cell? ⟨w.heap.size + 2, 9, none⟩ = some (.int .i64 ((1 : Nat) : Int)) ∧ ∀ w2, Below (efW w).heap.size (efW w) w2 → w2.cell? ⟨w.heap.size, op, none⟩ = some (.int .i64 ((effN 1 op 3 4).1 : Nat)) ∧ w2.cell? ⟨w.heap.size + 1, op, none⟩ = some (.int .i64 ((effN 1 op 3 4).2 : Nat)) ∧ Below w.heap.size w w2 := by
  obtain ⟨h1, h2, h3, h4⟩ := alloc4 w (.cells (natC takesL).toArray 3) (.cells (natC leavesL).toArray 3) (.cells #[.int .i64 0, .int .i64 0, .slice none 0 0, .int .i64 0, .int .i64 0, .slice none 0 0, .int .i64 0, .int .i64 0, .slice none 0 0, .int .i64 1, .int .i64 1, .slice none 0 0] 61) (.cells #[.int .i64 0, .slice none 0 0, .slice (some ⟨w.heap.size + 2, 0, none⟩) 4 4, .slice none 0 0] 47)
  obtain ⟨t1, t2⟩ := tables op hop
  refine ⟨cell_of_block h3, fun w2 hb => ?_⟩
  have kk := Keeps.of_below hb (Nat.le_refl _) []
  exact ⟨(cell_of_block (kk.at h1 List.not_mem_nil)).trans (natC_at t1), (cell_of_block (kk.at h2 List.not_mem_nil)).trans (natC_at t2), h4.trans (hb.mono h4.size)⟩
theorem verifyEffects.out (a0 : Int) (w : World) (h : a0 < 0 ∨ 44 ≤ a0) :
    Calls Try.prog 13 #[.int .i64 a0] w fun e w' => e = .returned (.bool true) ∧ Below w.heap.size w w' := by
  rcases (by omega : a0 < 0 ∨ (0 ≤ a0 ∧ 44 ≤ a0)) with h | h
  all_goals
    go_enter Try.func13, Try.ntmps13
    go_wp2_with (go_at_call 34; refine (alive21 _).mono ?_; rintro e w1 ⟨rfl, hb⟩)
    go_ret
    exact ⟨rfl, by assumption⟩
set_option maxRecDepth 100000 in
set_option maxHeartbeats 4000000 in
theorem verifyEffects.inside (op : Nat) (w : World) (hop : op < 44) :
    Calls Try.prog 13 #[.int .i64 (op : Nat)] w fun e w' => e = .returned (.bool true) ∧ Below w.heap.size w w' := by
  have i0 : (0 : Int) ≤ (op : Int) := by omega
  have i1 : (op : Int) < 44 := by omega
  have i2 : decide ((op : Int) < 0) = false := by rw [decide_eq_false_iff_not]; omega
  have i3 : decide ((44 : Int) ≤ (op : Int)) = false := by rw [decide_eq_false_iff_not]; omega
  have HA := Lib.hid (fun w => alive21 w)
  have HF := Lib.hid (fun w => efW_facts w op hop)
  have HE := Lib.hid (fun (W : World) (g : Nat) (hg : W.cell? ⟨g, 9, none⟩ = some (.int .i64 ((1 : Nat) : Int))) => effect_any 0 op 3 4 W (.int .i64 0) (.slice none 0 0) (.slice none 0 0) (some ⟨g, 0, none⟩) 4 4 1 (by decide) hop (fun _ => ⟨g, 0, rfl, hg⟩) (fun h => absurd (by decide) h))
  unfold EffDone at HE
  clear hop
  go_enter Try.func13, Try.ntmps13
  go_wp2_with fail
  refine (HA.out _).mono ?_
  rintro en w1 ⟨rfl, hb1⟩
  have HB1 := Lib.hid hb1
  obtain ⟨f1, f2⟩ := HF.out w1
  have HF1 := Lib.hid f1
  have HF2 := Lib.hid f2
  clear hb1 f1 f2
  go_wp2_with fail
  refine (HE.out _ (w1.heap.size + 2) HF1.out).mono ?_
  rintro en w2 ⟨rfl, hb2⟩
  obtain ⟨c1, c2, c3⟩ := HF2.out w2 hb2
  have HB2 := Lib.hid (HB1.out.trans (c3.mono HB1.out.size))
  clear hb2 c3
  generalize ((effN 1 op 3 4).1 : Nat) = x1 at c1 ⊢
  generalize ((effN 1 op 3 4).2 : Nat) = x2 at c2 ⊢
  go_wp2
  go_ret
  exact ⟨rfl, HB2.out⟩
theorem verifyEffects.walk (a0 : Int) (w : World) (w0 : (Lit.int .i64 a0).wf = true) :
    Calls Try.prog 13 #[.int .i64 a0] w fun e w' => e = .returned (.bool true) ∧ Below w.heap.size w w' := by
  by_cases h : a0 < 0 ∨ 44 ≤ a0
  · exact verifyEffects.out a0 w h
  · obtain ⟨n, rfl⟩ := Int.eq_ofNat_of_zero_le (show 0 ≤ a0 by omega)
    exact verifyEffects.inside n w (by omega)
end Go.Proofs.Yteipnfnbepnpjaa

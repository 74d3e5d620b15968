/- The example of chapter 20 holds. -/
import Derived.Test.YteipnfnbepnpjaaModBytes1
namespace Go.Proofs.Yteipnfnbepnpjaa
open Go.RowKit Go.Maps
set_option linter.unusedVariables false
theorem bytes_at (w1 : World) (ob : Obj) : Calls Try.prog 27 #[.agg #[.int .i64 0, .slice none 0 0, .slice (some ⟨w1.heap.size + 1 + 1, 0, none⟩) 1 1, .slice none 0 0]] (((w1.alloc ob).alloc (.cells #[.int .u8 2, .int .u8 22] 5)).alloc (.cells #[.int .i64 0, .int .i64 0, .slice (some ⟨w1.heap.size + 1, 0, none⟩) 2 2] 61)) (ByDone (((w1.alloc ob).alloc (.cells #[.int .u8 2, .int .u8 22] 5)).alloc (.cells #[.int .i64 0, .int .i64 0, .slice (some ⟨w1.heap.size + 1, 0, none⟩) 2 2] 61))) := by
  refine bytes_one (w1.heap.size + 1 + 1) (w1.heap.size + 1) _ ?_ ?_
  · have := heap_alloc_at ((w1.alloc ob).alloc (.cells #[.int .u8 2, .int .u8 22] 5)) (.cells #[.int .i64 0, .int .i64 0, .slice (some ⟨w1.heap.size + 1, 0, none⟩) 2 2] 61)
    simp only [size_alloc] at this
    exact this
  · rw [heap_alloc_lt _ _ (by simp only [size_alloc]; omega), ← size_alloc w1 ob]
    exact heap_alloc_at _ _
/-- the empty module -/
def m0X : ModX := { G := 0, n1 := 0, c1 := 0, n2 := 0, c2 := 0, n3 := 0, c3 := 0, b := fun _ => false, z := fun _ => 0, s := fun _ => ByteArray.empty, p := fun _ => 0, lo := fun _ => 0, ca := fun _ => none, cl := fun _ => 0, cc := fun _ => 0, fi := fun _ => 0, en := fun _ => 0 }
theorem right_none (w : World) : Calls Try.prog 30 #[.agg #[.int .i64 0, .slice none 0 0, .slice none 0 0, .slice none 0 0]] w fun e w' => e = .returned (.int .i64 12) ∧ Below w.heap.size w w' :=
  right_any (m := m0X) (a1 := none) (a2 := none) (a3 := none) w ⟨rows_none, rows_none, rows_none⟩
set_option maxRecDepth 100000 in
theorem alive20 (w : World) : Calls Try.prog 24 #[] w fun e w' => e = .returned (.bool true) ∧ Below w.heap.size w w' := by
  have HR := Lib.hid (fun w => mRead_nil w)
  have HB := Lib.hid (fun w1 ob => bytes_at w1 ob)
  have HN := Lib.hid (fun e w => num20_any e w)
  have H0 := Lib.hid (fun w => right_none w)
  go_enter Try.func24, Try.ntmps24
  go_wp2_with fail
  refine (HR.out _).mono ?_
  rintro en w1 ⟨rfl, hb1⟩
  have HB1 := Lib.hid hb1
  clear hb1
  go_wp2_with fail
  refine (HB.out _ _).mono ?_
  rintro en w2 ⟨a, c, rfl, hb2⟩
  have HB2 : Hid (Below w.heap.size w w2) := (show Below w.heap.size w w2 from HB1.out.trans ((((((Below.refl w1.heap.size w1).alloc (Nat.le_refl _) _).alloc (by simp only [size_alloc]; omega) _).alloc (by simp only [size_alloc]; omega) _).trans (hb2.mono (by simp only [size_alloc]; omega))).mono HB1.out.size))
  clear hb2
  go_wp2_with fail
  refine (HN.out _ _).mono ?_
  rintro en w3 ⟨rfl, rfl⟩
  go_wp2_with fail
  refine (HN.out _ _).mono ?_
  rintro en w3 ⟨rfl, rfl⟩
  go_wp2_with fail
  refine (H0.out _).mono ?_
  rintro en w3 ⟨rfl, hb3⟩
  have HB3 := Lib.hid (HB2.out.trans (hb3.mono HB2.out.size))
  clear hb3
  go_wp2_with fail
  refine (HN.out _ _).mono ?_
  rintro en w4 ⟨rfl, rfl⟩
  go_wp2
  go_ret
  exact ⟨rfl, HB3.out⟩
end Go.Proofs.Yteipnfnbepnpjaa

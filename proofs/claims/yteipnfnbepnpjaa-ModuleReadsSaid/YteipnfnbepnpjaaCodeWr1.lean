/- code's most and write, and the reference's in, compute what they say. -/
import Derived.Test.YteipnfnbepnpjaaCodeAlive
import Derived.Test.YteipnfnbepnpjaaCodeWrMath
namespace Go.Proofs.Yteipnfnbepnpjaa
open Go.RowKit
set_option linter.unusedVariables false

theorem in_any (n m : Int) (w : World) : Calls Try.prog 38 #[.int .i64 n, .int .i64 m] w fun e w' => e = .returned (.bool (decide (0 ≤ n) && decide (n ≤ m))) ∧ w = w' := by
  go_enter Try.func38, Try.ntmps38
  go_wp2
  all_goals
    go_ret
    refine ⟨ret_bool ?_, rfl⟩
    simp
    try omega
theorem most_any (op : Int) (w : World) : Calls Try.prog 40 #[.int .i64 op] w fun e w' => e = .returned (.tuple #[.int .i64 (mostA op : Nat), .int .i64 (mostB op : Nat)]) ∧ w = w' := by
  have HW := Lib.hid (fun w => width_any op w)
  by_cases h35 : op = 35
  · have e1 : mostA op = 255 := by unfold mostA; rw [if_pos h35]
    have e2 : mostB op = 255 := by unfold mostB; rw [if_pos h35]
    rw [e1, e2]
    have hb : (op == 35) = true := by simpa using h35
    clear h35 e1 e2
    go_enter Try.func40, Try.ntmps40
    go_wp2
    go_ret2
    exact ⟨rfl, rfl⟩
  · have e2 : mostB op = 0 := by unfold mostB; rw [if_neg h35]
    have e1 : mostA op = if widthZ op = 3 then 65535 else if widthZ op = 2 then 255 else 0 := by unfold mostA; rw [if_neg h35]
    rw [e1, e2]
    have hb : (op == 35) = false := by simpa using h35
    clear h35 e1 e2
    generalize widthZ op = n at HW ⊢
    by_cases h3 : n = 3
    · subst h3
      go_enter Try.func40, Try.ntmps40
      go_wp2_with (go_at_call 16; refine (HW.out _).mono ?_; rintro e w2 ⟨rfl, rfl⟩)
      go_ret2
      exact ⟨rfl, rfl⟩
    · by_cases h2 : n = 2
      · subst h2
        go_enter Try.func40, Try.ntmps40
        go_wp2_with (go_at_call 16; refine (HW.out _).mono ?_; rintro e w2 ⟨rfl, rfl⟩)
        go_ret2
        exact ⟨rfl, rfl⟩
      · rw [if_neg h3, if_neg h2]
        have d3 : ((n : Int) == 3) = false := by simpa using (by omega : ¬ (n : Int) = 3)
        have d2 : ((n : Int) == 2) = false := by simpa using (by omega : ¬ (n : Int) = 2)
        clear h3 h2
        go_enter Try.func40, Try.ntmps40
        go_wp2_with (go_at_call 16; refine (HW.out _).mono ?_; rintro e w2 ⟨rfl, rfl⟩)
        go_ret2
        exact ⟨rfl, rfl⟩
/-- what write does -/
def Wrote (bs : List Nat) (w : World) (en : Ending) (w' : World) : Prop :=
  ∃ g, en = .returned (.slice (some ⟨g, 0, none⟩) bs.length 3) ∧ w.heap.size ≤ g ∧ g < w'.heap.size ∧ (∀ (j y : Nat), bs[j]? = some y → w'.cell? ⟨g, j, none⟩ = some (.int .u8 (y : Nat))) ∧ Below w.heap.size w w'
theorem wrote_mk (w : World) (o1 : Obj) (c0 c1 c2 : Value) (t : TypeId) (bs : List Nat) (hb : (bs.map fun (y : Nat) => Value.int .u8 (y : Nat)) = [c0, c1, c2].take bs.length) :
    Wrote bs w (.returned (.slice (some ⟨w.heap.size + 1, 0, none⟩) bs.length 3)) ((w.alloc o1).alloc (.cells #[c0, c1, c2] t)) := by
  refine ⟨w.heap.size + 1, rfl, by omega, by simp, fun j y hy => ?_, ((Below.refl _ _).alloc (Nat.le_refl _) _).alloc (by simp) _⟩
  have h1 := cell_of_block (i := j) (heap_alloc_at (w.alloc o1) (.cells #[c0, c1, c2] t))
  rw [size_alloc] at h1
  rw [h1]
  have h2 : (bs.map fun (y : Nat) => Value.int .u8 (y : Nat))[j]? = some (.int .u8 (y : Nat)) := by rw [List.getElem?_map, hy]; rfl
  rw [hb, List.getElem?_take] at h2
  split at h2
  · simpa using h2
  · cases h2
set_option maxRecDepth 100000 in
theorem write1 (t : Int) (o : Nat) (w : World) (ho : o < 44) (hw : widthN o = 1) :
    Calls Try.prog 41 #[.agg #[.int .i64 t, .int .i64 (o : Nat), .int .i64 0, .int .i64 0]] w (Wrote [o] w) := by
  have HW := Lib.hid (fun w => width_any (o : Nat) w)
  rw [widthZ_nat, hw] at HW
  have hb : ((o : Int) == 35) = false := by simpa using (by intro e; rw [show o = 35 by omega] at hw; revert hw; decide : ¬ (o : Int) = 35)
  have hoi : (o : Int) < 44 := by omega
  clear hw
  go_enter Try.func41, Try.ntmps41
  go_wp2_with (go_at_call 16; refine (HW.out _).mono ?_; rintro e w2 ⟨rfl, rfl⟩)
  go_ret
  exact wrote_mk w _ _ _ _ _ [o] rfl
set_option maxRecDepth 100000 in
theorem write2 (t : Int) (o a : Nat) (w : World) (ho : o < 44) (ha : a < 256) (hw : widthN o = 2) :
    Calls Try.prog 41 #[.agg #[.int .i64 t, .int .i64 (o : Nat), .int .i64 (a : Nat), .int .i64 0]] w (Wrote [o, a] w) := by
  have HW := Lib.hid (fun w => width_any (o : Nat) w)
  rw [widthZ_nat, hw] at HW
  have hb : ((o : Int) == 35) = false := by simpa using (by intro e; rw [show o = 35 by omega] at hw; revert hw; decide : ¬ (o : Int) = 35)
  have hoi : (o : Int) < 44 := by omega
  have hai : (a : Int) < 256 := by omega
  clear hw
  go_enter Try.func41, Try.ntmps41
  go_wp2_with (go_at_call 16; refine (HW.out _).mono ?_; rintro e w2 ⟨rfl, rfl⟩)
  go_ret
  exact wrote_mk w _ _ _ _ _ [o, a] rfl
set_option maxRecDepth 100000 in
theorem write3 (t : Int) (o a : Nat) (w : World) (ho : o < 44) (ha : a ≤ 65535) (hw : widthN o = 3) (h35 : o ≠ 35) :
    Calls Try.prog 41 #[.agg #[.int .i64 t, .int .i64 (o : Nat), .int .i64 (a : Nat), .int .i64 0]] w (Wrote [o, a % 256, a / 256] w) := by
  have HW := Lib.hid (fun w => width_any (o : Nat) w)
  rw [widthZ_nat, hw] at HW
  have hb : ((o : Int) == 35) = false := by simpa using (by omega : ¬ (o : Int) = 35)
  have hoi : (o : Int) < 44 := by omega
  have hai : (a : Int) ≤ 65535 := by omega
  clear hw
  go_enter Try.func41, Try.ntmps41
  go_wp2_with (go_at_call 16; refine (HW.out _).mono ?_; rintro e w2 ⟨rfl, rfl⟩)
  go_ret
  exact wrote_mk w _ _ _ _ _ [o, a % 256, a / 256] rfl
set_option maxRecDepth 100000 in
theorem write35 (t : Int) (a c : Nat) (w : World) (ha : a < 256) (hc : c < 256) :
    Calls Try.prog 41 #[.agg #[.int .i64 t, .int .i64 35, .int .i64 (a : Nat), .int .i64 (c : Nat)]] w (Wrote [35, a, c] w) := by
  have HW := Lib.hid (fun w => width_any 35 w)
  rw [widthZ_35] at HW
  have hai : (a : Int) < 256 := by omega
  have hci : (c : Int) < 256 := by omega
  go_enter Try.func41, Try.ntmps41
  go_wp2_with (go_at_call 16; refine (HW.out _).mono ?_; rintro e w2 ⟨rfl, rfl⟩)
  go_ret
  exact wrote_mk w _ _ _ _ _ [35, a, c] rfl
theorem write_any (t : Int) (x : Int × Int × Int) (w : World) (h : okIns x = true) :
    Calls Try.prog 41 #[.agg #[.int .i64 t, .int .i64 x.1, .int .i64 x.2.1, .int .i64 x.2.2]] w (Wrote (insBytes x) w) := by
  obtain ⟨h0, h1, h2, h3, h4, h5, h6, h7⟩ := okIns_bounds h
  have hle := widthZ_le x.1
  obtain ⟨op, A, B⟩ := x
  simp only at *
  obtain ⟨o, rfl⟩ : ∃ n : Nat, op = n := ⟨op.toNat, by omega⟩
  obtain ⟨a, rfl⟩ : ∃ n : Nat, A = n := ⟨A.toNat, by omega⟩
  obtain ⟨c, rfl⟩ : ∃ n : Nat, B = n := ⟨B.toNat, by omega⟩
  unfold insBytes
  simp only [Int.toNat_natCast]
  rw [widthZ_nat] at *
  by_cases w1 : widthN o = 1
  · obtain ⟨z1, z2⟩ := h4 w1
    rw [if_pos w1, z1, z2]
    exact write1 t o w (by omega) w1
  · rw [if_neg w1]
    by_cases w2 : widthN o = 2
    · obtain ⟨z1, z2⟩ := h5 w2
      rw [if_pos w2, z2]
      exact write2 t o a w (by omega) (by omega) w2
    · rw [if_neg w2]
      have w3 : widthN o = 3 := by omega
      by_cases o35 : o = 35
      · subst o35
        rw [if_pos (show ((35 : Nat) : Int) = 35 from rfl)]
        exact write35 t a c w (by have := h6 rfl; omega) (by omega)
      · rw [if_neg (by omega), h7 (by omega)]
        exact write3 t o a w (by omega) (by omega) w3 o35
end Go.Proofs.Yteipnfnbepnpjaa

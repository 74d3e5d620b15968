/- ModuleLimits: a long code. -/
import Derived.Test.YteipnfnbepnpjaaModLimits2
namespace Go.Proofs.Yteipnfnbepnpjaa
open Go.RowKit Go.Maps
set_option linter.unusedVariables false
set_option maxRecDepth 100000 in
set_option maxHeartbeats 4000000 in
theorem ml5 (ov : Bool) (w : World) : Calls Try.prog 10 #[.int .i64 5, .bool ov] w fun e w' => e = .returned (.bool true) ∧ Below w.heap.size w w' := by
  have HA := Lib.hid (fun w => alive20 w)
  have HN := Lib.hid (fun e w => num20_any e w)
  cases ov
  · obtain ⟨Z, hZ⟩ : ∃ Z, Z = madeCells #[Value.int .u8 0] 4000 := ⟨_, rfl⟩
    have hm : ∀ W : World, (Instr.makeSlice 26 (.int .i64 4000) (.int .i64 4000)).run Try.prog W = .ok (.slice (some ⟨W.heap.size, 0, none⟩) 4000 4000) (W.alloc (.cells Z 5)) := by
      intro W
      have h := bmake 4000 (by decide) W
      rw [← hZ] at h
      exact h
    clear hZ
    go_enter Try.func10, Try.ntmps10
    go_wp2_with fail
    refine (HA.out _).mono ?_
    rintro en w1 ⟨rfl, hb1⟩
    have HB1 := Lib.hid hb1
    clear hb1
    go_wp2_with fail
    go_region
    go_wp2_with fail
    refine (right_l 4000 0 ((lx_code 4000 _).trans rfl)).mono ?_
    rintro en w2 ⟨rfl, hb2⟩
    have HB2 := Lib.hid (HB1.out.trans (hb2.mono HB1.out.size))
    clear hb2
    go_wp2_with fail
    refine (HN.out _ _).mono ?_
    rintro en w3 ⟨rfl, rfl⟩
    go_wp2
    go_ret
    exact ⟨rfl, HB2.out⟩
  · obtain ⟨Z, hZ⟩ : ∃ Z, Z = madeCells #[Value.int .u8 0] 4001 := ⟨_, rfl⟩
    have hm : ∀ W : World, (Instr.makeSlice 26 (.int .i64 4001) (.int .i64 4001)).run Try.prog W = .ok (.slice (some ⟨W.heap.size, 0, none⟩) 4001 4001) (W.alloc (.cells Z 5)) := by
      intro W
      have h := bmake 4001 (by decide) W
      rw [← hZ] at h
      exact h
    clear hZ
    go_enter Try.func10, Try.ntmps10
    go_wp2_with fail
    refine (HA.out _).mono ?_
    rintro en w1 ⟨rfl, hb1⟩
    have HB1 := Lib.hid hb1
    clear hb1
    go_wp2_with fail
    go_region
    go_wp2_with fail
    refine (right_l 4001 9 ((lx_code 4001 _).trans rfl)).mono ?_
    rintro en w2 ⟨rfl, hb2⟩
    have HB2 := Lib.hid (HB1.out.trans (hb2.mono HB1.out.size))
    clear hb2
    go_wp2_with fail
    refine (HN.out _ _).mono ?_
    rintro en w3 ⟨rfl, rfl⟩
    go_wp2
    go_ret
    exact ⟨rfl, HB2.out⟩
end Go.Proofs.Yteipnfnbepnpjaa

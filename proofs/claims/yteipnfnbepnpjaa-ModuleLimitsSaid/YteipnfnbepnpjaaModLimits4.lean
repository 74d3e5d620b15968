/- ModuleLimits: a long text. -/
import Derived.Test.YteipnfnbepnpjaaModLimits2
namespace Go.Proofs.Yteipnfnbepnpjaa
open Go.RowKit Go.Maps
set_option linter.unusedVariables false
set_option maxRecDepth 100000 in
set_option maxHeartbeats 4000000 in
theorem ml4 (ov : Bool) (w : World) : Calls Try.prog 10 #[.int .i64 4, .bool ov] w fun e w' => e = .returned (.bool true) ∧ Below w.heap.size w w' := by
  have HA := Lib.hid (fun w => alive20 w)
  have HN := Lib.hid (fun e w => num20_any e w)
  cases ov
  · have hm : ∀ W : World, (Instr.makeSlice 26 (.int .i64 255) (.int .i64 255)).run Try.prog W = .ok (.slice (some ⟨W.heap.size, 0, none⟩) 255 255) (W.alloc (.cells (madeCells #[Value.int .u8 0] 255) 5)) := fun W => bmake 255 (by decide) W
    have hcv := zero_conv 255 (by decide)
    have HSZ := Lib.hid zsize_255
    generalize strOf (List.replicate 255 0) = S at hcv HSZ
    go_enter Try.func10, Try.ntmps10
    go_wp2_with fail
    refine (HA.out _).mono ?_
    rintro en w1 ⟨rfl, hb1⟩
    have HB1 := Lib.hid hb1
    clear hb1
    go_wp2_with fail
    refine (right_t 255 0 HSZ.out rfl).mono ?_
    rintro en w2 ⟨rfl, hb2⟩
    have HB2 := Lib.hid (HB1.out.trans (hb2.mono HB1.out.size))
    clear hb2
    go_wp2_with fail
    refine (HN.out _ _).mono ?_
    rintro en w3 ⟨rfl, rfl⟩
    go_wp2
    go_ret
    exact ⟨rfl, HB2.out⟩
  · have hm : ∀ W : World, (Instr.makeSlice 26 (.int .i64 256) (.int .i64 256)).run Try.prog W = .ok (.slice (some ⟨W.heap.size, 0, none⟩) 256 256) (W.alloc (.cells (madeCells #[Value.int .u8 0] 256) 5)) := fun W => bmake 256 (by decide) W
    have hcv := zero_conv 256 (by decide)
    have HSZ := Lib.hid zsize_256
    generalize strOf (List.replicate 256 0) = S at hcv HSZ
    go_enter Try.func10, Try.ntmps10
    go_wp2_with fail
    refine (HA.out _).mono ?_
    rintro en w1 ⟨rfl, hb1⟩
    have HB1 := Lib.hid hb1
    clear hb1
    go_wp2_with fail
    refine (right_t 256 9 HSZ.out rfl).mono ?_
    rintro en w2 ⟨rfl, hb2⟩
    have HB2 := Lib.hid (HB1.out.trans (hb2.mono HB1.out.size))
    clear hb2
    go_wp2_with fail
    refine (HN.out _ _).mono ?_
    rintro en w3 ⟨rfl, rfl⟩
    go_wp2
    go_ret
    exact ⟨rfl, HB2.out⟩
end Go.Proofs.Yteipnfnbepnpjaa

/- ModuleLimits: many functions, walked. -/
import Derived.Test.YteipnfnbepnpjaaModLimits3
namespace Go.Proofs.Yteipnfnbepnpjaa
open Go.RowKit Go.Maps
set_option linter.unusedVariables false
set_option maxRecDepth 100000 in
set_option maxHeartbeats 4000000 in
theorem ml2 (ov : Bool) (w : World) : Calls Try.prog 10 #[.int .i64 2, .bool ov] w fun e w' => e = .returned (.bool true) ∧ Below w.heap.size w w' := by
  have HA := Lib.hid (fun w => alive20 w)
  have HN := Lib.hid (fun e w => num20_any e w)
  obtain ⟨i0, hi, hz0, hz1, hz2⟩ := info_parts funcInfo
  have HI := Lib.hid hi
  have HZ0 := Lib.hid hz0
  have HZ1 := Lib.hid hz1
  have HZ2 := Lib.hid hz2
  clear hi hz0 hz1 hz2
  cases ov
  · go_enter Try.func10, Try.ntmps10
    go_wp2_with fail
    refine (HA.out _).mono ?_
    rintro en w1 ⟨rfl, hb1⟩
    have HB1 := Lib.hid hb1
    clear hb1
    have HS0 := Lib.hid (fun A B => LpS.start w1 A B)
    unfold cdV at HS0
    go_wp2_with fail
    go_loopw [11] (fun i wr => ∃ (k : Nat) (va : Option Addr) (vc : Nat), i = .int .i64 (k : Nat) ∧ 1 ≤ k ∧ k ≤ 100 ∧ Hid (LpS w1 (.slice va k vc) k wr)) (fun i _ => 100 - (intOf i).toNat)
    case atStart => exact ⟨1, _, _, rfl, Nat.le_refl _, by decide, HS0.out _ _⟩
    case round =>
      obtain ⟨k, va, vc, rfl, hk1, hk, hs⟩ := hrel
      obtain ⟨wo, rfl⟩ : ∃ wo : World, wo = wr := ⟨_, rfl⟩
      by_cases hlt : k < 100
      · have hi1 : (k : Int) < 100 := by omega
        have c2 : wo.cell? ⟨w1.heap.size + 1 + 1 + 1 + 1, 2, none⟩ = some (.slice va k vc) := cell_of_block hs.out.m
        have x0 : wo.cell? ⟨w1.heap.size + 1 + 1, 0, none⟩ = some (.int .i64 1) := cell_of_block hs.out.x
        have x1 : wo.cell? ⟨w1.heap.size + 1 + 1, 1, none⟩ = some (.int .i64 50) := cell_of_block hs.out.x
        have x2 : wo.cell? ⟨w1.heap.size + 1 + 1, 2, none⟩ = some (.slice (some ⟨w1.heap.size + 1, 0, none⟩) 2 2) := cell_of_block hs.out.x
        have HRW := Lib.hid (fun (ob : Obj) => (show RowS (wo.alloc ob) 3 (.slice va k vc) k (cK (cdV w1) k) from hs.out.row.keeps ((Keeps.refl [] wo).alloc ob) fun _ _ => List.not_mem_nil))
        have HO1 : Hid (k + 1 ≤ maxLen) := (show k + 1 ≤ maxLen by unfold maxLen; omega)
        have HO2 : Hid ((k + 1) * 40 ≤ 140737488355328) := (show (k + 1) * 40 ≤ 140737488355328 by omega)
        go_wp2_with (at_builtin; refine wpList_row (by rfl) (.tmp 60) (.tmp 62) 44 rfl 61 i0 (.agg #[.int .i64 0, .int .i64 0, .slice none 0 0]) 3 40 Try.underlying44 HI.out HZ0.out HZ1.out HZ2.out rfl (by decide) (.slice va k vc) k (cK (cdV w1) k) rfl (HRW.out _) (.slice (some ⟨wo.heap.size, 0, none⟩) 1 1) 1 [.int .i64 1, .int .i64 50, cdV w1] rfl (src3 _ _ _ _ _) (one3 _ _ _ _ _) HO1.out HO2.out ?_)
        intro v2 w2 hr2 hg2 hv2
        have hp := hs.out.push hr2 hg2 hv2
        obtain ⟨a2, d2, hve, _⟩ := hr2.read
        subst hve
        have d2c : w2.cell? ⟨w1.heap.size + 1 + 1 + 1 + 1, 2, none⟩ = some (.slice va k vc) := cell_of_block hp.1
        have d2f : w2.frozen? ⟨w1.heap.size + 1 + 1 + 1 + 1, 2, none⟩ = false := free_of_block hp.1
        have HP := Lib.hid hp.2
        clear hr2 hg2 hv2 hp c2 x0 x1 x2
        go_wp2
        go_roundw
        case rel => first | exact ⟨k + 1, a2, d2, by go_num, by omega, by omega, HP⟩ | ((repeat apply Exists.intro); exact ⟨⟨k + 1, a2, d2, by go_num, by omega, by omega, HP⟩, rfl⟩)
        case measure => simp [intOf]; omega
      · obtain rfl : k = 100 := by omega
        have hm := hs.out.m
        have c0 : wo.cell? ⟨w1.heap.size + 1 + 1 + 1 + 1, 0, none⟩ = some (.int .i64 0) := cell_of_block hm
        have c1 : wo.cell? ⟨w1.heap.size + 1 + 1 + 1 + 1, 1, none⟩ = some (.slice none 0 0) := cell_of_block hm
        have c2 : wo.cell? ⟨w1.heap.size + 1 + 1 + 1 + 1, 2, none⟩ = some (.slice va 100 vc) := cell_of_block hm
        have c3 : wo.cell? ⟨w1.heap.size + 1 + 1 + 1 + 1, 3, none⟩ = some (.slice none 0 0) := cell_of_block hm
        clear hlt hm
        go_wp2_with fail
        refine (right_n 100 0 (by decide) hs.out rfl).mono ?_
        rintro en w2 ⟨rfl, hb2⟩
        have HB2 := Lib.hid (HB1.out.trans (hb2.mono HB1.out.size))
        clear hb2
        go_wp2_with fail
        refine (HN.out _ _).mono ?_
        rintro en w3 ⟨rfl, rfl⟩
        go_wp2
        go_ret
        exact ⟨rfl, HB2.out⟩
  · go_enter Try.func10, Try.ntmps10
    go_wp2_with fail
    refine (HA.out _).mono ?_
    rintro en w1 ⟨rfl, hb1⟩
    have HB1 := Lib.hid hb1
    clear hb1
    have HS0 := Lib.hid (fun A B => LpS.start w1 A B)
    unfold cdV at HS0
    go_wp2_with fail
    go_loopw [11] (fun i wr => ∃ (k : Nat) (va : Option Addr) (vc : Nat), i = .int .i64 (k : Nat) ∧ 1 ≤ k ∧ k ≤ 101 ∧ Hid (LpS w1 (.slice va k vc) k wr)) (fun i _ => 101 - (intOf i).toNat)
    case atStart => exact ⟨1, _, _, rfl, Nat.le_refl _, by decide, HS0.out _ _⟩
    case round =>
      obtain ⟨k, va, vc, rfl, hk1, hk, hs⟩ := hrel
      obtain ⟨wo, rfl⟩ : ∃ wo : World, wo = wr := ⟨_, rfl⟩
      by_cases hlt : k < 101
      · have hi1 : (k : Int) < 101 := by omega
        have c2 : wo.cell? ⟨w1.heap.size + 1 + 1 + 1 + 1, 2, none⟩ = some (.slice va k vc) := cell_of_block hs.out.m
        have x0 : wo.cell? ⟨w1.heap.size + 1 + 1, 0, none⟩ = some (.int .i64 1) := cell_of_block hs.out.x
        have x1 : wo.cell? ⟨w1.heap.size + 1 + 1, 1, none⟩ = some (.int .i64 50) := cell_of_block hs.out.x
        have x2 : wo.cell? ⟨w1.heap.size + 1 + 1, 2, none⟩ = some (.slice (some ⟨w1.heap.size + 1, 0, none⟩) 2 2) := cell_of_block hs.out.x
        have HRW := Lib.hid (fun (ob : Obj) => (show RowS (wo.alloc ob) 3 (.slice va k vc) k (cK (cdV w1) k) from hs.out.row.keeps ((Keeps.refl [] wo).alloc ob) fun _ _ => List.not_mem_nil))
        have HO1 : Hid (k + 1 ≤ maxLen) := (show k + 1 ≤ maxLen by unfold maxLen; omega)
        have HO2 : Hid ((k + 1) * 40 ≤ 140737488355328) := (show (k + 1) * 40 ≤ 140737488355328 by omega)
        go_wp2_with (at_builtin; refine wpList_row (by rfl) (.tmp 60) (.tmp 62) 44 rfl 61 i0 (.agg #[.int .i64 0, .int .i64 0, .slice none 0 0]) 3 40 Try.underlying44 HI.out HZ0.out HZ1.out HZ2.out rfl (by decide) (.slice va k vc) k (cK (cdV w1) k) rfl (HRW.out _) (.slice (some ⟨wo.heap.size, 0, none⟩) 1 1) 1 [.int .i64 1, .int .i64 50, cdV w1] rfl (src3 _ _ _ _ _) (one3 _ _ _ _ _) HO1.out HO2.out ?_)
        intro v2 w2 hr2 hg2 hv2
        have hp := hs.out.push hr2 hg2 hv2
        obtain ⟨a2, d2, hve, _⟩ := hr2.read
        subst hve
        have d2c : w2.cell? ⟨w1.heap.size + 1 + 1 + 1 + 1, 2, none⟩ = some (.slice va k vc) := cell_of_block hp.1
        have d2f : w2.frozen? ⟨w1.heap.size + 1 + 1 + 1 + 1, 2, none⟩ = false := free_of_block hp.1
        have HP := Lib.hid hp.2
        clear hr2 hg2 hv2 hp c2 x0 x1 x2
        go_wp2
        go_roundw
        case rel => first | exact ⟨k + 1, a2, d2, by go_num, by omega, by omega, HP⟩ | ((repeat apply Exists.intro); exact ⟨⟨k + 1, a2, d2, by go_num, by omega, by omega, HP⟩, rfl⟩)
        case measure => simp [intOf]; omega
      · obtain rfl : k = 101 := by omega
        have hm := hs.out.m
        have c0 : wo.cell? ⟨w1.heap.size + 1 + 1 + 1 + 1, 0, none⟩ = some (.int .i64 0) := cell_of_block hm
        have c1 : wo.cell? ⟨w1.heap.size + 1 + 1 + 1 + 1, 1, none⟩ = some (.slice none 0 0) := cell_of_block hm
        have c2 : wo.cell? ⟨w1.heap.size + 1 + 1 + 1 + 1, 2, none⟩ = some (.slice va 101 vc) := cell_of_block hm
        have c3 : wo.cell? ⟨w1.heap.size + 1 + 1 + 1 + 1, 3, none⟩ = some (.slice none 0 0) := cell_of_block hm
        clear hlt hm
        go_wp2_with fail
        refine (right_n 101 9 (by decide) hs.out rfl).mono ?_
        rintro en w2 ⟨rfl, hb2⟩
        have HB2 := Lib.hid (HB1.out.trans (hb2.mono HB1.out.size))
        clear hb2
        go_wp2_with fail
        refine (HN.out _ _).mono ?_
        rintro en w3 ⟨rfl, rfl⟩
        go_wp2
        go_ret
        exact ⟨rfl, HB2.out⟩
end Go.Proofs.Yteipnfnbepnpjaa

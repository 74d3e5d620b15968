/- The walk of the law VerifyDeep: it answers true for every input. -/
import Derived.Test.YteipnfnbepnpjaaVerRun
import Derived.Test.YteipnfnbepnpjaaAccB
namespace Go.Proofs.Yteipnfnbepnpjaa
open Go.RowKit Go.Maps
set_option linter.unusedVariables false

theorem fun_alloc (w : World) (loc : Nat) (a : Option Addr) (len cap : Nat) (t : TypeId) : FunAt (w.alloc (.cells #[.int .i64 0, .int .i64 (loc : Nat), .slice a len cap] t)) w.heap.size loc a len cap :=
  ⟨cell_of_block (heap_alloc_at _ _), cell_of_block (heap_alloc_at _ _), cell_of_block (heap_alloc_at _ _)⟩
theorem verifyDeep.out (a0 a1 : Int) (w : World) (h : a0 < 1 ∨ 150 < a0 ∨ a1 < 0 ∨ 50 < a1) :
    Calls Try.prog 12 #[.int .i64 a0, .int .i64 a1] w fun e w' => e = .returned (.bool true) ∧ Below w.heap.size w w' := by
  rcases (by omega : a0 < 1 ∨ (1 ≤ a0 ∧ 150 < a0) ∨ (1 ≤ a0 ∧ a0 ≤ 150 ∧ a1 < 0) ∨ (1 ≤ a0 ∧ a0 ≤ 150 ∧ 0 ≤ a1 ∧ 50 < a1)) with h | h | h | h
  all_goals
    go_enter Try.func12, Try.ntmps12
    go_wp2_with (go_at_call 34; refine (alive21 _).mono ?_; rintro e w1 ⟨rfl, hb⟩)
    go_ret
    exact ⟨rfl, by assumption⟩
set_option maxRecDepth 100000 in
set_option maxHeartbeats 4000000 in
theorem verifyDeep.inside (n loc : Nat) (w : World) (hn1 : 1 ≤ n) (hn : n ≤ 150) (hloc : loc ≤ 50) :
    Calls Try.prog 12 #[.int .i64 (n : Nat), .int .i64 (loc : Nat)] w fun e w' => e = .returned (.bool true) ∧ Below w.heap.size w w' := by
  have d1 : decide ((n : Int) < 1) = false := by rw [decide_eq_false_iff_not]; omega
  have d2 : decide ((150 : Int) < (n : Int)) = false := by rw [decide_eq_false_iff_not]; omega
  have d3 : decide ((loc : Int) < 0) = false := by rw [decide_eq_false_iff_not]; omega
  have d4 : decide ((50 : Int) < (loc : Int)) = false := by rw [decide_eq_false_iff_not]; omega
  have HA := Lib.hid (fun w => alive21 w)
  have HN := Lib.hid (fun e w => num21_any e w)
  obtain ⟨F, hF, hR⟩ := deep_ok n loc hn1
  have HV := Lib.hid (fun (W : World) (fb : Nat) (a : Option Addr) (cap : Nat) (f : FunAt W fb loc a (n + 1) cap) (hb : Bys W a (n + 1) cap (byL (List.replicate n 2 ++ [22]))) => verCheck_any F _ _ W f hb (by omega) hloc (by omega) hR (by split <;> simp))
  unfold VerDone at HV
  obtain ⟨i0, hi, hz0, hz1, hz2⟩ := info_parts byteInfo
  have HI := Lib.hid hi
  have HZ0 := Lib.hid hz0
  have HZ1 := Lib.hid hz1
  have HZ2 := Lib.hid hz2
  clear hF hR hi hz0 hz1 hz2
  go_enter Try.func12, Try.ntmps12
  go_wp2_with fail
  refine (HA.out _).mono ?_
  rintro en w1 ⟨rfl, hb1⟩
  have HB1 := Lib.hid hb1
  clear hb1
  have HS0 := Lib.hid (AccB.start w1)
  go_wp2_with fail
  go_loopw [6, 7] (fun v i wr => ∃ k : Nat, i = .int .i64 (k : Nat) ∧ k ≤ n ∧ Hid (AccB w1 v (List.replicate k 2) wr)) (fun _ i _ => n - (intOf i).toNat)
  case atStart => exact ⟨0, rfl, Nat.zero_le _, HS0⟩
  case round =>
    obtain ⟨k, rfl, hk, hs⟩ := hrel
    obtain ⟨wo, rfl⟩ : ∃ wo : World, wo = wr := ⟨_, rfl⟩
    by_cases hlt : k < n
    · have hi1 : (k : Int) < (n : Int) := by omega
      have HRW := Lib.hid (fun (ob : Obj) => (show RowS (wo.alloc ob) 1 u6 k (byteCells (List.replicate k 2)) by have := hs.out.src ob; rw [List.length_replicate] at this; exact this))
      have HO1 : Hid (k + 1 ≤ maxLen) := (show k + 1 ≤ maxLen by unfold maxLen; omega)
      have HO2 : Hid ((k + 1) * 1 ≤ 140737488355328) := (show (k + 1) * 1 ≤ 140737488355328 by omega)
      go_wp2_with (at_builtin; refine wpList_row (by rfl) (.tmp 36) (.tmp 37) 26 rfl 5 i0 (.int .u8 0) 1 1 Try.underlying26 HI.out HZ0.out HZ1.out HZ2.out rfl (by decide) u6 k (byteCells (List.replicate k 2)) rfl (HRW.out _) (.slice (some ⟨wo.heap.size, 0, none⟩) 1 1) 1 (byteCells [2]) rfl (new_bytes wo [2] _) (byteCells_one _) HO1.out HO2.out ?_)
      intro v2 w2 hr2 hg2 hv2
      have HS2 : Hid (AccB w1 v2 (List.replicate (k + 1) 2) w2) := (show _ from hs.out.push (bs := [2]) rfl List.replicate_succ' (by rw [List.length_replicate]; exact hr2) hg2 hv2)
      clear hr2 hg2 hv2
      go_wp2
      go_roundw
      case rel => first | exact ⟨k + 1, by go_num, by omega, HS2⟩ | ((repeat apply Exists.intro); exact ⟨⟨k + 1, by go_num, by omega, HS2⟩, rfl⟩)
      case measure => simp [intOf]; omega
    · obtain rfl : k = n := by omega
      have HRW := Lib.hid (fun (ob : Obj) => (show RowS (wo.alloc ob) 1 u6 k (byteCells (List.replicate k 2)) by have := hs.out.src ob; rw [List.length_replicate] at this; exact this))
      have HO1 : Hid (k + 1 ≤ maxLen) := (show k + 1 ≤ maxLen by unfold maxLen; omega)
      have HO2 : Hid ((k + 1) * 1 ≤ 140737488355328) := (show (k + 1) * 1 ≤ 140737488355328 by omega)
      clear hlt
      go_wp2_with (at_builtin; refine wpList_row (by rfl) (.tmp 41) (.tmp 42) 26 rfl 5 i0 (.int .u8 0) 1 1 Try.underlying26 HI.out HZ0.out HZ1.out HZ2.out rfl (by decide) u6 k (byteCells (List.replicate k 2)) rfl (HRW.out _) (.slice (some ⟨wo.heap.size, 0, none⟩) 1 1) 1 (byteCells [22]) rfl (new_bytes wo [22] _) (byteCells_one _) HO1.out HO2.out ?_)
      intro v2 w2 hr2 hg2 hv2
      have hs2 : AccB w1 v2 (List.replicate k 2 ++ [22]) w2 := hs.out.push (bs := [22]) rfl rfl (by rw [List.length_replicate]; exact hr2) hg2 hv2
      obtain ⟨a2, cap2, hv2e, hhb⟩ := hs2.row.holdsB (by intro y hy; simp at hy; rcases hy with ⟨_, rfl⟩ | rfl <;> decide)
      have hll : (List.replicate k 2 ++ [22]).length = k + 1 := by simp
      rw [hll] at hv2e hhb
      subst hv2e
      have HS2 := Lib.hid hs2
      have HH := Lib.hid hhb.bys
      have HV2 := Lib.hid (HV.out (w2.alloc (.cells #[.int .i64 0, .int .i64 (loc : Nat), .slice a2 (k + 1) cap2] 61)) w2.heap.size a2 cap2 (fun_alloc _ _ _ _ _ _) (HH.out.below ((Below.refl _ _).alloc (Nat.le_refl _) _)))
      clear hr2 hg2 hv2 hs2 hhb hll
      by_cases hbig : 100 < k
      · rw [if_pos hbig] at HV2
        have hb3 : (100 : Int) < (k : Int) := by omega
        clear hbig
        go_wp2_with fail
        refine HV2.out.mono ?_
        rintro en w3 ⟨rfl, hb3⟩
        have HB3 := Lib.hid (HB1.out.trans ((HS2.out.bel.trans (((Below.refl _ w2).alloc (Nat.le_refl _) _).trans (hb3.mono (by rw [size_alloc]; omega)) |>.mono HS2.out.bel.size)).mono HB1.out.size))
        clear hb3
        go_wp2_with fail
        refine (HN.out _ _).mono ?_
        rintro en w4 ⟨rfl, rfl⟩
        go_wp2
        go_ret
        exact ⟨rfl, HB3.out⟩
      · rw [if_neg hbig] at HV2
        have hb3 : ¬ (100 : Int) < (k : Int) := by omega
        clear hbig
        go_wp2_with fail
        refine HV2.out.mono ?_
        rintro en w3 ⟨rfl, hb3⟩
        have HB3 := Lib.hid (HB1.out.trans ((HS2.out.bel.trans (((Below.refl _ w2).alloc (Nat.le_refl _) _).trans (hb3.mono (by rw [size_alloc]; omega)) |>.mono HS2.out.bel.size)).mono HB1.out.size))
        clear hb3
        go_wp2_with fail
        refine (HN.out _ _).mono ?_
        rintro en w4 ⟨rfl, rfl⟩
        go_wp2
        go_ret
        exact ⟨rfl, HB3.out⟩
theorem verifyDeep.walk (a0 a1 : Int) (w : World) (w0 : (Lit.int .i64 a0).wf = true) (w1 : (Lit.int .i64 a1).wf = true) :
    Calls Try.prog 12 #[.int .i64 a0, .int .i64 a1] w fun e w' => e = .returned (.bool true) ∧ Below w.heap.size w w' := by
  by_cases h : a0 < 1 ∨ 150 < a0 ∨ a1 < 0 ∨ 50 < a1
  · exact verifyDeep.out a0 a1 w h
  · obtain ⟨n, rfl⟩ := Int.eq_ofNat_of_zero_le (show 0 ≤ a0 by omega)
    obtain ⟨m, rfl⟩ := Int.eq_ofNat_of_zero_le (show 0 ≤ a1 by omega)
    exact verifyDeep.inside n m w (by omega) (by omega) (by omega)
end Go.Proofs.Yteipnfnbepnpjaa

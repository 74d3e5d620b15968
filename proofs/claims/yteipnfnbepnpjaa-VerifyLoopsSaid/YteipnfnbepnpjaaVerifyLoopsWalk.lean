/- The walk of the law VerifyLoops: it answers true for every input. -/
import Derived.Test.YteipnfnbepnpjaaVerRun
import Derived.Test.YteipnfnbepnpjaaAccB
namespace Go.Proofs.Yteipnfnbepnpjaa
open Go.RowKit Go.Maps
set_option linter.unusedVariables false

theorem fun_alloc' (w : World) (a : Option Addr) (len cap : Nat) (t : TypeId) : FunAt (w.alloc (.cells #[.int .i64 0, .int .i64 0, .slice a len cap] t)) w.heap.size 0 a len cap :=
  ⟨cell_of_block (heap_alloc_at _ _), cell_of_block (heap_alloc_at _ _), cell_of_block (heap_alloc_at _ _)⟩
def lpB (body n : Nat) : List Nat := (List.range n).map (loopO body)
theorem lpB_len (body n : Nat) : (lpB body n).length = n := by simp [lpB]
theorem lpB_two {body k : Nat} (hk : k < body) : lpB body (2 * (k + 1)) = lpB body (2 * k) ++ [2, 5] := by
  unfold lpB
  rw [show 2 * (k + 1) = 2 * k + 1 + 1 by omega, List.range_succ, List.range_succ, List.map_append, List.map_append]
  have e1 : loopO body (2 * k) = 2 := by unfold loopO; rw [if_neg (by omega)]
  have e2 : loopO body (2 * k + 1) = 5 := by unfold loopO; rw [if_pos (by omega)]
  simp [e1, e2]
theorem lpB_one {body k : Nat} : lpB body (2 * body + (k + 1)) = lpB body (2 * body + k) ++ [2] := by
  unfold lpB
  rw [show 2 * body + (k + 1) = 2 * body + k + 1 by omega, List.range_succ, List.map_append]
  have e1 : loopO body (2 * body + k) = 2 := by unfold loopO; rw [if_neg (by omega)]
  simp [e1]
theorem lpB_small {body n : Nat} {t : List Nat} (ht : ∀ y ∈ t, y < 256) : ∀ y ∈ lpB body n ++ t, y < 256 := by
  intro y hy
  rw [List.mem_append] at hy
  rcases hy with hy | hy
  · unfold lpB at hy
    obtain ⟨k, _, rfl⟩ := List.mem_map.1 hy
    unfold loopO; split <;> omega
  · exact ht y hy
theorem verifyLoops.out (a0 a1 : Int) (w : World) (h : a0 < 0 ∨ 60 < a0 ∨ a1 < 0 ∨ 3 < a1) :
    Calls Try.prog 14 #[.int .i64 a0, .int .i64 a1] w fun e w' => e = .returned (.bool true) ∧ Below w.heap.size w w' := by
  rcases (by omega : a0 < 0 ∨ (0 ≤ a0 ∧ 60 < a0) ∨ (0 ≤ a0 ∧ a0 ≤ 60 ∧ a1 < 0) ∨ (0 ≤ a0 ∧ a0 ≤ 60 ∧ 0 ≤ a1 ∧ 3 < a1)) with h | h | h | h
  all_goals
    go_enter Try.func14, Try.ntmps14
    go_wp2_with (go_at_call 34; refine (alive21 _).mono ?_; rintro e w1 ⟨rfl, hb⟩)
    go_ret
    exact ⟨rfl, by assumption⟩
set_option maxRecDepth 100000 in
set_option maxHeartbeats 4000000 in
theorem verifyLoops.inside (body more : Nat) (w : World) (hbo : body ≤ 60) (hmo : more ≤ 3) :
    Calls Try.prog 14 #[.int .i64 (body : Nat), .int .i64 (more : Nat)] w fun e w' => e = .returned (.bool true) ∧ Below w.heap.size w w' := by
  have d1 : decide ((body : Int) < 0) = false := by rw [decide_eq_false_iff_not]; omega
  have d2 : decide ((60 : Int) < (body : Int)) = false := by rw [decide_eq_false_iff_not]; omega
  have d3 : decide ((more : Int) < 0) = false := by rw [decide_eq_false_iff_not]; omega
  have d4 : decide ((3 : Int) < (more : Int)) = false := by rw [decide_eq_false_iff_not]; omega
  have HA := Lib.hid (fun w => alive21 w)
  have HN := Lib.hid (fun e w => num21_any e w)
  obtain ⟨F, hF, hR⟩ := loops_ok body more hmo
  have HV := Lib.hid (fun (W : World) (fb : Nat) (a : Option Addr) (cap : Nat) (f : FunAt W fb 0 a (2 * body + more + 3) cap) (hb : Bys W a (2 * body + more + 3) cap (byL (lpB body (2 * body + more) ++ [19, 0, 0]))) => verCheck_any F _ _ W f hb (by omega) (by omega) (by omega) hR (by intro _; rfl))
  unfold VerDone at HV
  obtain ⟨i0, hi, hz0, hz1, hz2⟩ := info_parts byteInfo
  have HI := Lib.hid hi
  have HZ0 := Lib.hid hz0
  have HZ1 := Lib.hid hz1
  have HZ2 := Lib.hid hz2
  clear hF hR hi hz0 hz1 hz2
  go_enter Try.func14, Try.ntmps14
  go_wp2_with fail
  refine (HA.out _).mono ?_
  rintro en w1 ⟨rfl, hb1⟩
  have HB1 := Lib.hid hb1
  clear hb1
  have HS0 : Hid (AccB w1 (.slice none 0 0) (lpB body (2 * 0)) w1) := AccB.start w1
  go_wp2_with fail
  go_loopw [6, 7] (fun v i wr => ∃ k : Nat, i = .int .i64 (k : Nat) ∧ k ≤ body ∧ Hid (AccB w1 v (lpB body (2 * k)) wr)) (fun _ i _ => body - (intOf i).toNat)
  case atStart => exact ⟨0, rfl, Nat.zero_le _, HS0⟩
  case round =>
    obtain ⟨k, rfl, hk, hs⟩ := hrel
    obtain ⟨wo, rfl⟩ : ∃ wo : World, wo = wr := ⟨_, rfl⟩
    by_cases hlt : k < body
    · have hi1 : (k : Int) < (body : Int) := by omega
      have HRW := Lib.hid (fun (ob : Obj) => (show RowS (wo.alloc ob) 1 u6 (2 * k) (byteCells (lpB body (2 * k))) by have := hs.out.src ob; rw [lpB_len] at this; exact this))
      have HO1 : Hid (2 * k + 2 ≤ maxLen) := (show 2 * k + 2 ≤ maxLen by unfold maxLen; omega)
      have HO2 : Hid ((2 * k + 2) * 1 ≤ 140737488355328) := (show (2 * k + 2) * 1 ≤ 140737488355328 by omega)
      go_wp2_with (at_builtin; refine wpList_row (by rfl) (.tmp 38) (.tmp 39) 26 rfl 5 i0 (.int .u8 0) 1 1 Try.underlying26 HI.out HZ0.out HZ1.out HZ2.out rfl (by decide) u6 (2 * k) (byteCells (lpB body (2 * k))) rfl (HRW.out _) (.slice (some ⟨wo.heap.size, 0, none⟩) 2 2) 2 (byteCells [2, 5]) rfl (new_bytes wo [2, 5] _) (byteCells_one _) HO1.out HO2.out ?_)
      intro v2 w2 hr2 hg2 hv2
      have HS2 : Hid (AccB w1 v2 (lpB body (2 * (k + 1))) w2) := (show _ from hs.out.push (bs := [2, 5]) rfl (lpB_two hlt) (by rw [lpB_len]; exact hr2) hg2 hv2)
      clear hr2 hg2 hv2
      go_wp2
      go_roundw
      case rel => first | exact ⟨k + 1, by go_num, by omega, HS2⟩ | ((repeat apply Exists.intro); exact ⟨⟨k + 1, by go_num, by omega, HS2⟩, rfl⟩)
      case measure => simp [intOf]; omega
    · obtain rfl : k = body := by omega
      have HT0 : Hid (AccB w1 u6 (lpB k (2 * k + 0)) wo) := hs
      clear hlt hs
      go_wp2_with fail
      go_loopw [6, 8] (fun v i wr => ∃ (j : Nat) (vv : Value), vv = v ∧ i = .int .i64 (j : Nat) ∧ j ≤ more ∧ Hid (AccB w1 vv (lpB k (2 * k + j)) wr)) (fun _ i _ => more - (intOf i).toNat)
      case atStart => exact ⟨0, _, rfl, rfl, Nat.zero_le _, HT0⟩
      case round =>
        obtain ⟨j, vv, rfl, rfl, hj, hs⟩ := hrel
        obtain ⟨wp, rfl⟩ : ∃ wp : World, wp = wr := ⟨_, rfl⟩
        by_cases hlt : j < more
        · have hi1 : (j : Int) < (more : Int) := by omega
          have HRW := Lib.hid (fun (ob : Obj) => (show RowS (wp.alloc ob) 1 vv (2 * k + j) (byteCells (lpB k (2 * k + j))) by have := hs.out.src ob; rw [lpB_len] at this; exact this))
          have HO1 : Hid (2 * k + j + 1 ≤ maxLen) := (show 2 * k + j + 1 ≤ maxLen by unfold maxLen; omega)
          have HO2 : Hid ((2 * k + j + 1) * 1 ≤ 140737488355328) := (show (2 * k + j + 1) * 1 ≤ 140737488355328 by omega)
          go_wp2_with (at_builtin; refine wpList_row (by rfl) (.tmp 46) (.tmp 47) 26 rfl 5 i0 (.int .u8 0) 1 1 Try.underlying26 HI.out HZ0.out HZ1.out HZ2.out rfl (by decide) vv (2 * k + j) (byteCells (lpB k (2 * k + j))) rfl (HRW.out _) (.slice (some ⟨wp.heap.size, 0, none⟩) 1 1) 1 (byteCells [2]) rfl (new_bytes wp [2] _) (byteCells_one _) HO1.out HO2.out ?_)
          intro v2 w2 hr2 hg2 hv2
          have HS2 : Hid (AccB w1 v2 (lpB k (2 * k + (j + 1))) w2) := (show _ from hs.out.push (bs := [2]) rfl lpB_one (by rw [lpB_len]; exact hr2) hg2 hv2)
          clear hr2 hg2 hv2
          go_wp2
          go_roundw
          case rel => first | exact ⟨j + 1, _, rfl, by go_num, by omega, HS2⟩ | ((repeat apply Exists.intro); exact ⟨⟨j + 1, _, rfl, by go_num, by omega, HS2⟩, rfl⟩)
          case measure => simp [intOf]; omega
        · obtain rfl : j = more := by omega
          have HRW := Lib.hid (fun (ob : Obj) => (show RowS (wp.alloc ob) 1 vv (2 * k + j) (byteCells (lpB k (2 * k + j))) by have := hs.out.src ob; rw [lpB_len] at this; exact this))
          have HO1 : Hid (2 * k + j + 3 ≤ maxLen) := (show 2 * k + j + 3 ≤ maxLen by unfold maxLen; omega)
          have HO2 : Hid ((2 * k + j + 3) * 1 ≤ 140737488355328) := (show (2 * k + j + 3) * 1 ≤ 140737488355328 by omega)
          have hvv : ∃ a c, vv = .slice a (2 * k + j) c := by
            obtain ⟨a, c, e, _⟩ := hs.out.row.read
            rw [lpB_len] at e
            exact ⟨a, c, e⟩
          obtain ⟨va, vc, rfl⟩ := hvv
          clear hlt
          go_wp2_with (at_builtin; refine wpList_row (by rfl) (.tmp 51) (.tmp 52) 26 rfl 5 i0 (.int .u8 0) 1 1 Try.underlying26 HI.out HZ0.out HZ1.out HZ2.out rfl (by decide) (.slice va (2 * k + j) vc) (2 * k + j) (byteCells (lpB k (2 * k + j))) rfl (HRW.out _) (.slice (some ⟨wp.heap.size, 0, none⟩) 3 3) 3 (byteCells [19, 0, 0]) rfl (new_bytes wp [19, 0, 0] _) (byteCells_one _) HO1.out HO2.out ?_)
          intro v2 w2 hr2 hg2 hv2
          have hs2 : AccB w1 v2 (lpB k (2 * k + j) ++ [19, 0, 0]) w2 := hs.out.push (bs := [19, 0, 0]) rfl rfl (by rw [lpB_len]; exact hr2) hg2 hv2
          obtain ⟨a2, cap2, hv2e, hhb⟩ := hs2.row.holdsB (lpB_small (by decide))
          have hll : (lpB k (2 * k + j) ++ [19, 0, 0]).length = 2 * k + j + 3 := by rw [List.length_append, lpB_len]; rfl
          rw [hll] at hv2e hhb
          subst hv2e
          have HS2 := Lib.hid hs2
          have HH := Lib.hid hhb.bys
          have HV2 := Lib.hid (HV.out (w2.alloc (.cells #[.int .i64 0, .int .i64 0, .slice a2 (2 * k + j + 3) cap2] 61)) w2.heap.size a2 cap2 (fun_alloc' _ _ _ _ _) (HH.out.below ((Below.refl _ _).alloc (Nat.le_refl _) _)))
          clear hr2 hg2 hv2 hs2 hhb hll
          by_cases hbig : 0 < j
          · rw [if_pos hbig] at HV2
            have hb3 : (0 : Int) < (j : Int) := by omega
            have hb4 : (0 : Int) < ((2 * k + j : Nat) : Int) := by omega
            have hb5 : (0 : Int) < 2 * (k : Int) + (j : Int) := by omega
            clear hbig
            go_wp2_with fail
            refine HV2.out.mono ?_
            rintro en w3 ⟨rfl, hb3⟩
            have HB3 := Lib.hid (HB1.out.trans ((HS2.out.bel.trans (((Below.refl _ w2).alloc (Nat.le_refl _) _).trans (hb3.mono (by rw [size_alloc]; omega)) |>.mono HS2.out.bel.size)).mono HB1.out.size))
            clear hb3
            go_wp2_with fail
            refine (HN.out _ _).mono ?_
            rintro en w4 ⟨rfl, rfl⟩
            go_wp2
            go_ret
            exact ⟨rfl, HB3.out⟩
          · rw [if_neg hbig] at HV2
            have hb3 : ¬ (0 : Int) < (j : Int) := by omega
            clear hbig
            go_wp2_with fail
            refine HV2.out.mono ?_
            rintro en w3 ⟨rfl, hb3⟩
            have HB3 := Lib.hid (HB1.out.trans ((HS2.out.bel.trans (((Below.refl _ w2).alloc (Nat.le_refl _) _).trans (hb3.mono (by rw [size_alloc]; omega)) |>.mono HS2.out.bel.size)).mono HB1.out.size))
            clear hb3
            go_wp2_with fail
            refine (HN.out _ _).mono ?_
            rintro en w4 ⟨rfl, rfl⟩
            go_wp2
            go_ret
            exact ⟨rfl, HB3.out⟩
theorem verifyLoops.walk (a0 a1 : Int) (w : World) (w0 : (Lit.int .i64 a0).wf = true) (w1 : (Lit.int .i64 a1).wf = true) :
    Calls Try.prog 14 #[.int .i64 a0, .int .i64 a1] w fun e w' => e = .returned (.bool true) ∧ Below w.heap.size w w' := by
  by_cases h : a0 < 0 ∨ 60 < a0 ∨ a1 < 0 ∨ 3 < a1
  · exact verifyLoops.out a0 a1 w h
  · obtain ⟨n, rfl⟩ := Int.eq_ofNat_of_zero_le (show 0 ≤ a0 by omega)
    obtain ⟨m, rfl⟩ := Int.eq_ofNat_of_zero_le (show 0 ≤ a1 by omega)
    exact verifyLoops.inside n m w (by omega) (by omega)
end Go.Proofs.Yteipnfnbepnpjaa

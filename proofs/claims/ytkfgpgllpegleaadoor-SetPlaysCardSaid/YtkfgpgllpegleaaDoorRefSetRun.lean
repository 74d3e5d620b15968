/- the reference's Set: Run, Free, List, Count, and a new one. -/
import Derived.Test.YtkfgpgllpegleaaDoorRefSet
import Derived.Test.YtkfgpgllpegleaaDoorSetNew
namespace Go.Proofs.YtkfgpgllpegleaaDoor
open Go.RowKit
set_option linter.unusedVariables false

section
variable {w w' : World} {p g n : Nat} {S S' : Nat → Bool}
theorem rsrun_in (K : Nat) (w : World) (h : RefS w p g n S) (hK2 : 2 ≤ K) (hK3 : K ≤ 9223372036854775807) :
    Calls Tryd.prog 13 #[.pointer (some ⟨p, 0, none⟩), .int .i64 (K : Nat)] w (SomeRun n S K w) := by
  have hK : 1 ≤ K := by omega
  have C := Lib.hid (fun k hk => (h.at (k := k) hk).1)
  have hc := h.cell
  have hn := h.small
  clear h
  go_enter Tryd.func13, Tryd.ntmps13
  go_wp2_with fail
  go_loop [5, 6] (fun r i => ∃ k row : Nat, k ≤ n ∧ i = .int .i64 k ∧ r = .int .i64 row ∧ Hid (Scan S K k row)) (fun _ i => n - (intOf i).toNat)
  case atStart => exact ⟨0, 0, Nat.zero_le _, rfl, rfl, Scan.start S hK⟩
  case round =>
    obtain ⟨k, row, hk, rfl, rfl, hs⟩ := hrel
    have hle := hs.out.le
    have hlt0 := hs.out.lt
    by_cases hlt : k < n
    · have hx := C.out k hlt
      by_cases hS : S k = true
      · rw [hS] at hx
        have HS := Lib.hid (hs.out.taken hS)
        have hz : ((0 : Int) == (K : Int)) = false := by rw [beq_eq_false_iff_ne]; omega
        clear hS
        go_wp2
        go_round
        case rel => exact ⟨k + 1, 0, by omega, by go_num, rfl, HS.out⟩
        case measure => simp [intOf]; omega
      · have hS' : S k = false := by simpa using hS
        rw [hS'] at hx
        have HS' := Lib.hid hS'
        clear hS hS'
        by_cases he : row + 1 = K
        · have R := Lib.hid (hs.out.found HS'.out he hlt)
          have hz : (((row : Int) + 1) == (K : Int)) = true := by rw [beq_iff_eq]; omega
          have HE := Lib.hid he
          clear he
          go_wp2
          go_ret
          exact ⟨_, rfl, R.out, rfl⟩
        · have HS := Lib.hid (hs.out.more HS'.out he)
          have hz : (((row : Int) + 1) == (K : Int)) = false := by rw [beq_eq_false_iff_ne]; omega
          clear he
          go_wp2
          go_round
          case rel => exact ⟨k + 1, row + 1, by omega, by go_num, by go_num, HS.out⟩
          case measure => simp [intOf]; omega
    · have e : k = n := by omega
      subst e
      have R := Lib.hid hs.out.over
      go_wp2
      go_ret
      exact ⟨_, rfl, R.out, rfl⟩
theorem rsrun_low (a : Int) (w : World) (h : RefS w p g n S) (ha : a ≤ 1) :
    Calls Tryd.prog 13 #[.pointer (some ⟨p, 0, none⟩), .int .i64 a] w (SomeRun n S 1 w) := by
  have C := Lib.hid (fun k hk => (h.at (k := k) hk).1)
  have hc := h.cell
  have hn := h.small
  clear h
  by_cases ha1 : a = 1
  · subst ha1
    go_enter Tryd.func13, Tryd.ntmps13
    go_wp2_with fail
    go_loop [5, 6] (fun r i => ∃ k : Nat, k ≤ n ∧ i = .int .i64 k ∧ r = .int .i64 0 ∧ Hid (Scan S 1 k 0)) (fun _ i => n - (intOf i).toNat)
    case atStart => exact ⟨0, Nat.zero_le _, rfl, rfl, Scan.start S (Nat.le_refl _)⟩
    case round =>
      obtain ⟨k, hk, rfl, rfl, hs⟩ := hrel
      by_cases hlt : k < n
      · have hx := C.out k hlt
        by_cases hS : S k = true
        · rw [hS] at hx
          have HS := Lib.hid (hs.out.taken hS)
          clear hS
          go_wp2
          go_round
          case rel => exact ⟨k + 1, by omega, by go_num, rfl, HS.out⟩
          case measure => simp [intOf]; omega
        · have hS' : S k = false := by simpa using hS
          rw [hS'] at hx
          have R := Lib.hid (hs.out.found hS' rfl hlt)
          clear hS hS'
          go_wp2
          go_ret
          refine ⟨(k : Int) - ((1 : Nat) : Int) + 1, ret_int ?_, R.out, rfl⟩
          omega
      · have e : k = n := by omega
        subst e
        have R := Lib.hid hs.out.over
        go_wp2
        go_ret
        exact ⟨_, rfl, R.out, rfl⟩
  · have hlow : a < 1 := by omega
    clear ha ha1
    go_enter Tryd.func13, Tryd.ntmps13
    go_wp2_with fail
    go_loop [5, 6] (fun r i => ∃ k : Nat, k ≤ n ∧ i = .int .i64 k ∧ r = .int .i64 0 ∧ Hid (Scan S 1 k 0)) (fun _ i => n - (intOf i).toNat)
    case atStart => exact ⟨0, Nat.zero_le _, rfl, rfl, Scan.start S (Nat.le_refl _)⟩
    case round =>
      obtain ⟨k, hk, rfl, rfl, hs⟩ := hrel
      by_cases hlt : k < n
      · have hx := C.out k hlt
        by_cases hS : S k = true
        · rw [hS] at hx
          have HS := Lib.hid (hs.out.taken hS)
          clear hS
          go_wp2
          go_round
          case rel => exact ⟨k + 1, by omega, by go_num, rfl, HS.out⟩
          case measure => simp [intOf]; omega
        · have hS' : S k = false := by simpa using hS
          rw [hS'] at hx
          have R := Lib.hid (hs.out.found hS' rfl hlt)
          clear hS hS'
          go_wp2
          go_ret
          refine ⟨(k : Int) - ((1 : Nat) : Int) + 1, ret_int ?_, R.out, rfl⟩
          omega
      · have e : k = n := by omega
        subst e
        have R := Lib.hid hs.out.over
        go_wp2
        go_ret
        exact ⟨_, rfl, R.out, rfl⟩
theorem rsrun_any (a : Int) (w : World) (h : RefS w p g n S) (ha : a ≤ 9223372036854775807) :
    Calls Tryd.prog 13 #[.pointer (some ⟨p, 0, none⟩), .int .i64 a] w (SomeRun n S (atLeast1 a) w) := by
  by_cases h1 : a ≤ 1
  · have e : atLeast1 a = 1 := by unfold atLeast1; omega
    rw [e]; exact rsrun_low a w h h1
  · obtain ⟨K, rfl⟩ := Int.eq_ofNat_of_zero_le (show 0 ≤ a by omega)
    have e : atLeast1 (K : Int) = K := by unfold atLeast1; omega
    rw [e]; exact rsrun_in K w h (by omega) (by omega)
theorem rsfree_any (w : World) (h : RefS w p g n S) :
    Calls Tryd.prog 17 #[.pointer (some ⟨p, 0, none⟩)] w (SomeRun n S 1 w) := by
  have C := Lib.hid (rsrun_low 1 w h (Int.le_refl _))
  clear h
  go_enter Tryd.func17, Tryd.ntmps17
  go_wp2_with fail
  refine C.out.mono ?_
  rintro e w' ⟨r, rfl, h1, rfl⟩
  have H1 := Lib.hid h1
  clear h1
  go_wp2
  go_ret
  exact ⟨r, rfl, H1.out, rfl⟩

set_option maxRecDepth 100000 in
theorem rslist_any (w : World) (h : RefS w p g n S) :
    Calls Tryd.prog 22 #[.pointer (some ⟨p, 0, none⟩)] w (RowDone w (lst S n)) := by
  obtain ⟨i0, hi, hz0, hz1, hz2⟩ := info_parts intInfo1
  have HI := Lib.hid hi
  have HZ0 := Lib.hid hz0
  have HZ1 := Lib.hid hz1
  have HZ2 := Lib.hid hz2
  have H := Lib.hid h
  have hn := h.small
  clear h hi hz0 hz1 hz2
  go_enter Tryd.func22, Tryd.ntmps22
  go_wp2_with fail
  go_loopw [3, 4] (fun v i wr => ∃ (k : Nat), i = .int .i64 (k : Nat) ∧ k ≤ n ∧ Hid (AccI w v (lst S k) wr)) (fun _ i _ => n - (intOf i).toNat)
  case atStart => exact ⟨0, rfl, Nat.zero_le _, AccI.start w⟩
  case round =>
    obtain ⟨k, rfl, hk, hs⟩ := hrel
    obtain ⟨wo, rfl⟩ : ∃ wo : World, wo = wr := ⟨_, rfl⟩
    have HR := Lib.hid (H.out.below hs.out.bel)
    have hc := HR.out.cell
    by_cases hlt : k < n
    · have hx := (HR.out.at hlt).1
      have hi0 : (0 : Int) ≤ (k : Int) := by omega
      have hi1 : (k : Int) < (n : Int) := by omega
      by_cases hS : S k = true
      · rw [hS] at hx
        have HST := Lib.hid (lst_yes hS)
        have HLL : Hid ((lst S k).length ≤ 1000000) := (show (lst S k).length ≤ 1000000 by have := lst_le S k; omega)
        generalize lst S k = acc at hs HST HLL
        have HO1 : Hid (acc.length + 1 ≤ maxLen) := (show acc.length + 1 ≤ maxLen by have := HLL.out; unfold maxLen; omega)
        have HO2 : Hid ((acc.length + 1) * 8 ≤ 140737488355328) := (show (acc.length + 1) * 8 ≤ 140737488355328 by have := HLL.out; omega)
        clear hS
        go_wp2_with (at_builtin; refine wpList_row (by rfl) (.tmp 21) (.tmp 23) 34 rfl 3 i0 (.int .i64 0) 1 8 Tryd.underlying34 HI.out HZ0.out HZ1.out HZ2.out rfl (by decide) u3 acc.length (intC acc) rfl (hs.out.src _) (.slice (some ⟨wo.heap.size, 0, none⟩) 1 1) 1 [.int .i64 (k : Nat)] rfl (new_one _ _ _) (one_of rfl) HO1.out HO2.out ?_)
        intro v2 w2 hr2 hg2 hv2
        have HA2 : Hid (AccI w v2 (lst S (k + 1)) w2) := (show AccI w v2 (lst S (k + 1)) w2 by rw [HST.out]; exact hs.out.push hr2 hg2 hv2)
        clear hr2 hg2 hv2
        go_wp2
        go_roundw
        case rel => first | exact ⟨k + 1, by go_num, by omega, HA2⟩ | ((repeat apply Exists.intro); exact ⟨⟨k + 1, by go_num, by omega, HA2⟩, rfl⟩)
        case measure => simp [intOf]; omega
      · have hS' : S k = false := by simpa using hS
        rw [hS'] at hx
        have HST := Lib.hid (lst_no hS')
        have HA2 : Hid (AccI w u3 (lst S (k + 1)) wo) := (show AccI w u3 (lst S (k + 1)) wo by rw [HST.out]; exact hs.out)
        clear hS hS'
        go_wp2
        go_roundw
        case rel => first | exact ⟨k + 1, by go_num, by omega, HA2⟩ | ((repeat apply Exists.intro); exact ⟨⟨k + 1, by go_num, by omega, HA2⟩, rfl⟩)
        case measure => simp [intOf]; omega
    · obtain rfl : k = n := by omega
      have HF := Lib.hid hs.out.done
      clear hlt
      go_wp2
      go_ret
      exact HF.out
theorem rscount_any (w : World) (h : RefS w p g n S) :
    Calls Tryd.prog 19 #[.pointer (some ⟨p, 0, none⟩)] w fun e w' => e = .returned (.int .i64 (cnt S n : Nat)) ∧ Below w.heap.size w w' := by
  have C := Lib.hid (rslist_any w h)
  have HE := Lib.hid (lst_len S n)
  clear h
  go_enter Tryd.func19, Tryd.ntmps19
  go_wp2_with fail
  refine C.out.mono ?_
  rintro e w' ⟨v, rfl, hr, _, hb⟩
  rw [HE.out] at hr
  obtain ⟨a, cap, rfl, _⟩ := hr.read
  have HB := Lib.hid hb
  clear hb hr
  go_wp2
  go_ret
  exact ⟨rfl, HB.out⟩
end
theorem bool_info : (Tryd.prog.info? 4).map (fun i => (i.zero, i.size, i.bytes)) = some (some (.bool false), 1, 1) := by kernel_rfl
/-- a new one -/
def SomeRefS (N : Nat) (w : World) (e : Ending) (w' : World) : Prop :=
  ∃ p g, e = .returned (.pointer (some ⟨p, 0, none⟩)) ∧ RefS w' p g N (fun _ => false) ∧ w.heap.size ≤ p ∧ w.heap.size ≤ g ∧ Below w.heap.size w w'
theorem made_refS (w : World) (N T T' : Nat) (hN : N ≤ 1000000) :
    RefS ((w.alloc (.cells (madeCells #[Value.bool false] N) T')).alloc (.cells #[.slice (some ⟨w.heap.size, 0, none⟩) N N] T)) (w.heap.size + 1) w.heap.size N (fun _ => false) := by
  have e := size_alloc w (.cells (madeCells #[Value.bool false] N) T')
  refine ⟨hN, by omega, ⟨T, ?_⟩, madeCells #[Value.bool false] N, T', ?_, by simp [size_madeCells], fun i hi => ?_⟩
  · rw [← e]; exact heap_alloc_at _ _
  · rw [heap_alloc_lt _ _ (by omega)]; exact heap_alloc_at _ _
  · rw [← Array.getElem?_toList, toList_madeCells_one, List.getElem?_replicate, if_pos hi]
theorem rsnew_any (a : Int) (w : World) : Calls Tryd.prog 7 #[.int .i64 a] w (SomeRefS (setN a) w) := by
  obtain ⟨i0, hi, hz0, hz1, hz2⟩ := info_parts bool_info
  have he : (if a < 0 then 0 else if 1000000 < a then 1000000 else a) = ((setN a : Nat) : Int) := by unfold setN; omega
  have hN : setN a ≤ 1000000 := by unfold setN; omega
  have HC := Lib.hid (cut_ref a 0 1000000 w)
  rw [he] at HC
  generalize setN a = N at HC hN ⊢
  have hmk : ∀ W : World, (Instr.makeSlice 41 (.int .i64 (N : Nat)) (.int .i64 (N : Nat))).run Tryd.prog W = .ok (.slice (some ⟨W.heap.size, 0, none⟩) N N) (W.alloc (.cells (madeCells #[Value.bool false] N) 4)) := by
    intro W
    have := makes_len (P := Tryd.prog) 41 4 i0 (.bool false) Tryd.underlying41 hi hz0 .i64 .i64 N N (Nat.le_refl _) (by rw [hz2]; omega) (by omega) W
    rw [hz1, Nat.mul_one] at this
    exact this
  clear hi hz0 hz1 hz2 he
  go_enter Tryd.func7, Tryd.ntmps7
  go_wp2_with fail
  refine HC.out.mono ?_
  rintro e w' ⟨rfl, rfl⟩
  go_wp2
  go_ret
  exact ⟨_, _, rfl, made_refS w N _ _ hN, Nat.le_succ _, Nat.le_refl _, ((Below.refl _ _).alloc (Nat.le_refl _) _).alloc (by simp) _⟩
end Go.Proofs.YtkfgpgllpegleaaDoor

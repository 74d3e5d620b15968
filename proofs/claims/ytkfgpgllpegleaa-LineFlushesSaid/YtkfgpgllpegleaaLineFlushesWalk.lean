/- The walk of the law LineFlushes: it answers true for every input. -/
import Derived.Test.YtkfgpgllpegleaaLineLN
namespace Go.Proofs.Ytkfgpgllpegleaa
open Go.RowKit
set_option linter.unusedVariables false

theorem lineFlushes.out (a0 : Int) (a1 : Option Addr) (len1 cap1 : Nat) (w : World) (hd : ¬ (0 ≤ a0 ∧ a0 ≤ 1048576 ∧ len1 ≤ 60)) :
    Calls Try.prog 8 #[.int .i64 a0, .slice a1 len1 cap1] w fun e w' => e = .returned (.bool true) ∧ Below w.heap.size w w' := by
  go_enter Try.func8, Try.ntmps8
  go_wp2_with (go_at_call 23; refine (alive6 _).mono ?_; rintro e w' ⟨rfl, hb⟩)
  all_goals
    go_ret
    exact ⟨rfl, by assumption⟩

set_option maxHeartbeats 1000000 in
theorem lineFlushes.into (bud : Nat) (a1 : Option Addr) (len1 cap1 : Nat) (z1 : Nat → Int) (w : World) (hb : bud ≤ 1048576) (hl1 : len1 ≤ 60) (w1 : Ints .i64 w a1 len1 cap1 z1) :
    Calls Try.prog 8 #[.int .i64 (bud : Nat), .slice a1 len1 cap1] w fun e w' => e = .returned (.bool true) ∧ Below w.heap.size w w' := by
  have d1 : decide ((bud : Int) < 0) = false := by rw [decide_eq_false_iff_not]; omega
  have d2 : decide (1048576 < (bud : Int)) = false := by rw [decide_eq_false_iff_not]; omega
  have d3 : decide (60 < (len1 : Int)) = false := by rw [decide_eq_false_iff_not]; omega
  have W1 := Lib.hid w1
  clear w1
  obtain ⟨B, hB⟩ : ∃ B, B = w.heap.size := ⟨_, rfl⟩
  have HB := Lib.hid hB
  clear hB
  go_enter Try.func8, Try.ntmps8
  go_wp2_with fail
  refine (alive6 _).mono ?_
  rintro e wa ⟨rfl, hba⟩
  have HBa := Lib.hid hba
  clear hba
  go_wp2_with fail
  refine (lineNew_in bud _ (by omega)).mono ?_
  rintro e wb hs
  obtain ⟨p, rfl, hs2⟩ := LN.of_new hs
  have HS : Hid (LN B w p bud [] wb) := (show LN B w p bud [] wb by rw [HB.out]; exact hs2.weaken HBa.out HBa.out.size)
  clear hs hs2
  go_wp2_with fail
  go_loopw [7] (fun i wr => ∃ (k : Nat) (L : List (Int × Nat)), k ≤ len1 ∧ i = .int .i64 k ∧ L.length ≤ k ∧ LN B w p bud L wr) (fun i _ => len1 - (intOf i).toNat)
  case atStart => exact ⟨0, [], Nat.zero_le _, rfl, Nat.zero_le _, HS.out⟩
  case round =>
    obtain ⟨k, L, hk, rfl, hL, hln⟩ := hrel
    have HLN := Lib.hid hln
    clear hln
    by_cases hlt : k < len1
    · have hints : Ints .i64 wr a1 len1 cap1 z1 := W1.out.below (by rw [← HB.out]; exact HLN.out.bel)
      obtain ⟨b, off, rfl, hbl, hcell⟩ := hints.cell k hlt
      obtain ⟨c, hc15, hce⟩ := and15 (z1 k)
      clear hints
      go_wp2_with fail
      clear hce
      refine (addLN _ c HLN.out (by omega) (by omega)).mono ?_
      rintro e w2 ⟨oa, oc, rfl, -, hln2⟩
      have HLN2 : Hid (∃ L', L'.length ≤ k + 1 ∧ LN B w p bud L' w2) := (show ∃ L', L'.length ≤ k + 1 ∧ LN B w p bud L' w2 from ⟨_, by have := stays_len bud (L ++ [((k : Int), c)]); simp at this; omega, hln2⟩)
      clear hln2
      go_wp2
      obtain ⟨L', hL', hln3⟩ := HLN2.out
      go_roundw
      case rel => first | exact ⟨k + 1, L', by omega, by go_num, hL', hln3⟩ | ((repeat apply Exists.intro); exact ⟨⟨k + 1, L', by omega, by go_num, hL', hln3⟩, rfl⟩)
      case measure => simp [intOf]; omega
    · obtain rfl : k = len1 := by omega
      go_wp2_with fail
      refine (flushLN HLN.out).mono ?_
      rintro e w2 ⟨oa, oc, rfl, -, hln2⟩
      have HLN2 := Lib.hid hln2
      clear hln2 HLN
      go_wp2_with fail
      go_loopw [8] (fun i wr => ∃ (j : Nat), j ≤ k ∧ i = .int .i64 j ∧ LN B w p bud [] wr) (fun i _ => k - (intOf i).toNat)
      case atStart => exact ⟨0, Nat.zero_le _, rfl, HLN2.out⟩
      case round =>
        obtain ⟨j, hj, rfl, hln⟩ := hrel
        have HLN3 := Lib.hid hln
        clear hln
        by_cases hlt : j < k
        · go_wp2_with fail
          refine (hasLN _ HLN3.out).mono ?_
          rintro e w3 ⟨rfl, hln⟩
          have r1 : hasL [] (j : Int) = false := rfl
          rw [r1]
          have HLN4 := Lib.hid hln
          clear hln r1
          go_wp2
          go_roundw
          case rel => first | exact ⟨j + 1, by omega, by go_num, HLN4.out⟩ | ((repeat apply Exists.intro); exact ⟨⟨j + 1, by omega, by go_num, HLN4.out⟩, rfl⟩)
          case measure => simp [intOf]; omega
        · obtain rfl : j = k := by omega
          go_wp2_with fail
          refine (addLN 7 bud HLN3.out (by decide) (by omega)).mono ?_
          rintro e w3 ⟨oa2, oc2, rfl, -, hln⟩
          rw [(fits_one 7 bud).1]
          rw [(fits_one 7 bud).2] at hln
          have HLN4 := Lib.hid hln
          clear hln
          go_wp2_with fail
          refine (flushLN HLN4.out).mono ?_
          rintro e w4 ⟨oa3, oc3, rfl, -, hln⟩
          have HLN5 := Lib.hid hln
          clear hln
          go_wp2_with fail
          refine (wordsLN HLN5.out).mono ?_
          rintro e w5 ⟨rfl, rfl⟩
          go_wp2
          go_ret
          exact ⟨rfl, by rw [← HB.out]; exact HLN5.out.bel⟩

theorem lineFlushes.walk (a0 : Int) (a1 : Option Addr) (len1 cap1 : Nat) (z1 : Nat → Int) (w : World) (w0 : (Lit.int .i64 a0).wf = true) (w1 : Ints .i64 w a1 len1 cap1 z1) :
    Calls Try.prog 8 #[.int .i64 a0, .slice a1 len1 cap1] w fun e w' => e = .returned (.bool true) ∧ Below w.heap.size w w' := by
  by_cases h : 0 ≤ a0 ∧ a0 ≤ 1048576 ∧ len1 ≤ 60
  · obtain ⟨n, rfl⟩ : ∃ n : Nat, a0 = n := ⟨a0.toNat, by omega⟩
    exact lineFlushes.into n a1 len1 cap1 z1 w (by omega) h.2.2 w1
  · exact lineFlushes.out a0 a1 len1 cap1 w h
end Go.Proofs.Ytkfgpgllpegleaa

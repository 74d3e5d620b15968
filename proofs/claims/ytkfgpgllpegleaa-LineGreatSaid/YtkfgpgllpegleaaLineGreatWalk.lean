/- The walk of the law LineGreat: it answers true for every input. -/
import Derived.Test.YtkfgpgllpegleaaLineLaws
namespace Go.Proofs.Ytkfgpgllpegleaa
open Go.RowKit
set_option linter.unusedVariables false

theorem lineGreat.out (a0 a1 : Int) (a2 : Option Addr) (len2 cap2 : Nat) (w : World) (hd : ¬ (0 ≤ a0 ∧ a0 ≤ 1000 ∧ a0 < a1 ∧ a1 ≤ 1073741824 ∧ len2 ≤ 40)) :
    Calls Try.prog 5 #[.int .i64 a0, .int .i64 a1, .slice a2 len2 cap2] w fun e w' => e = .returned (.bool true) ∧ Below w.heap.size w w' := by
  go_enter Try.func5, Try.ntmps5
  go_wp2_with (go_at_call 23; refine (alive6 _).mono ?_; rintro e w' ⟨rfl, hb⟩)
  all_goals
    go_ret
    exact ⟨rfl, by assumption⟩

set_option maxHeartbeats 1000000 in
theorem lineGreat.into (bud n : Nat) (a2 : Option Addr) (len2 cap2 : Nat) (z2 : Nat → Int) (w : World) (hb : bud ≤ 1000) (hbn : bud < n) (hn : n ≤ 1073741824) (hl2 : len2 ≤ 40) (w2 : Ints .i64 w a2 len2 cap2 z2) :
    Calls Try.prog 5 #[.int .i64 (bud : Nat), .int .i64 (n : Nat), .slice a2 len2 cap2] w fun e w' => e = .returned (.bool true) ∧ Below w.heap.size w w' := by
  have d1 : decide ((bud : Int) < 0) = false := by rw [decide_eq_false_iff_not]; omega
  have d2 : decide (1000 < (bud : Int)) = false := by rw [decide_eq_false_iff_not]; omega
  have d3 : decide (n ≤ bud) = false := by rw [decide_eq_false_iff_not]; omega
  have d4 : decide (1073741824 < (n : Int)) = false := by rw [decide_eq_false_iff_not]; omega
  have d5 : decide (40 < (len2 : Int)) = false := by rw [decide_eq_false_iff_not]; omega
  have W2 := Lib.hid w2
  have HBN := Lib.hid hbn
  clear w2 hbn
  obtain ⟨B, hB⟩ : ∃ B, B = w.heap.size := ⟨_, rfl⟩
  have HB := Lib.hid hB
  clear hB
  go_enter Try.func5, Try.ntmps5
  go_wp2_with fail
  refine (alive6 _).mono ?_
  rintro e wa ⟨rfl, hba⟩
  have HBa := Lib.hid hba
  clear hba
  go_wp2_with fail
  refine (lineNew_in bud _ (by omega)).mono ?_
  rintro e wb hs
  obtain ⟨p, rfl, hs2⟩ := LN.of_new hs
  have HS : Hid (LN B w p bud [] wb) := (show LN B w p bud [] wb by rw [HB.out]; exact hs2.weaken HBa.out HBa.out.size)
  clear hs hs2
  go_wp2_with fail
  go_loopw [9, 10] (fun v i wr => ∃ (k g : Nat) (L : List (Int × Nat)), k ≤ len2 ∧ v = .int .i64 g ∧ i = .int .i64 k ∧ g + L.length = k ∧ LN B w p bud L wr) (fun _ i _ => len2 - (intOf i).toNat)
  case atStart => exact ⟨0, 0, [], Nat.zero_le _, rfl, rfl, rfl, HS.out⟩
  case round =>
    obtain ⟨k, g, L, hk, rfl, rfl, hL, hln⟩ := hrel
    have HLN := Lib.hid hln
    clear hln
    by_cases hlt : k < len2
    · have hints : Ints .i64 wr a2 len2 cap2 z2 := W2.out.below (by rw [← HB.out]; exact HLN.out.bel)
      obtain ⟨b, off, rfl, hbl, hcell⟩ := hints.cell k hlt
      obtain ⟨c, hc15, hce⟩ := and15 (z2 k)
      clear hints
      go_wp2_with fail
      clear hce
      refine (addLN _ c HLN.out (by omega) (by omega)).mono ?_
      rintro e w2 ⟨oa, oc, rfl, -, hln2⟩
      obtain ⟨G, hG⟩ : ∃ G, G = (goes bud (L ++ [((k : Int), c)])).length := ⟨_, rfl⟩
      rw [← hG]
      have hlen := goes_all_len bud (L ++ [((k : Int), c)])
      rw [← hG] at hlen
      have HLN2 : Hid (∃ L', (g + G) + L'.length = k + 1 ∧ LN B w p bud L' w2) := (show ∃ L', (g + G) + L'.length = k + 1 ∧ LN B w p bud L' w2 from ⟨_, by simp at hlen; omega, hln2⟩)
      have hGs : g + G ≤ k + 1 := by obtain ⟨L', h, _⟩ := HLN2.out; omega
      clear hln2 hG hlen
      go_wp2
      obtain ⟨L', hL', hln3⟩ := HLN2.out
      go_roundw
      case rel => first | exact ⟨k + 1, g + G, L', by omega, by go_num, by go_num, hL', hln3⟩ | ((repeat apply Exists.intro); exact ⟨⟨k + 1, g + G, L', by omega, by go_num, by go_num, hL', hln3⟩, rfl⟩)
      case measure => simp [intOf]; omega
    · obtain rfl : k = len2 := by omega
      go_wp2_with fail
      refine (addLN 1000 n HLN.out (by omega) (by omega)).mono ?_
      rintro e w2 ⟨oa, oc, rfl, hrow, hln2⟩
      have hgg := goes_great HBN.out 1000 L
      rw [hgg.2] at hln2
      rw [hgg.1] at hrow
      rw [hgg.1]
      have HLN2 := Lib.hid hln2
      obtain ⟨M, hM⟩ : ∃ M, M = L.length := ⟨_, rfl⟩
      have hM2 : (L.map (·.1) ++ [(1000 : Int)]).length = M + 1 := by simp [hM]
      rw [hM2] at hrow
      rw [hM2]
      obtain ⟨a, c, e, -, -, -, hrd⟩ := hrow.read
      cases e
      obtain ⟨b, off, rfl, hbl, hcell⟩ := hrd M (.int .i64 1000) (intCells_get (by rw [hM]; simp))
      have hne : ((M : Int) + 1 != (k : Int) - (g : Int) + 1) = false := by simp; omega
      rw [← hM] at hL
      clear hrd hrow hgg hln2 hM2 hM
      go_wp2_with fail
      refine (wordsLN HLN2.out).mono ?_
      rintro e w5 ⟨rfl, rfl⟩
      go_wp2
      go_ret
      exact ⟨rfl, by rw [← HB.out]; exact HLN2.out.bel⟩

theorem lineGreat.walk (a0 : Int) (a1 : Int) (a2 : Option Addr) (len2 cap2 : Nat) (z2 : Nat → Int) (w : World) (w0 : (Lit.int .i64 a0).wf = true) (w1 : (Lit.int .i64 a1).wf = true) (w2 : Ints .i64 w a2 len2 cap2 z2) :
    Calls Try.prog 5 #[.int .i64 a0, .int .i64 a1, .slice a2 len2 cap2] w fun e w' => e = .returned (.bool true) ∧ Below w.heap.size w w' := by
  by_cases h : 0 ≤ a0 ∧ a0 ≤ 1000 ∧ a0 < a1 ∧ a1 ≤ 1073741824 ∧ len2 ≤ 40
  · obtain ⟨b, rfl⟩ : ∃ n : Nat, a0 = n := ⟨a0.toNat, by omega⟩
    obtain ⟨n, rfl⟩ : ∃ n : Nat, a1 = n := ⟨a1.toNat, by omega⟩
    exact lineGreat.into b n a2 len2 cap2 z2 w (by omega) (by omega) (by omega) h.2.2.2.2 w2
  · exact lineGreat.out a0 a1 a2 len2 cap2 w h
end Go.Proofs.Ytkfgpgllpegleaa

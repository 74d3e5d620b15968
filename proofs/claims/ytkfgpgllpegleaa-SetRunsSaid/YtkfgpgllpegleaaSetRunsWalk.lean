/- The walk of the law SetRuns: it answers true for every input. -/
import Derived.Test.YtkfgpgllpegleaaSetAlive
namespace Go.Proofs.Ytkfgpgllpegleaa
open Go.RowKit
set_option linter.unusedVariables false

/-- what the inner loop has found so far -/
def FreeTo (S : Nat → Bool) (m x : Nat) (b : Bool) : Prop := b = true ↔ ∀ y, m ≤ y → y < x → S y = false

set_option maxHeartbeats 400000 in
theorem setRuns.out (a0 : Int) (a1 : Int) (a2 : Option Addr) (len2 cap2 : Nat) (w : World) (hd : ¬ (0 ≤ a0 ∧ a0 ≤ 200 ∧ 1 ≤ a1 ∧ a1 ≤ 250 ∧ len2 ≤ 100)) :
    Calls Try.prog 4 #[.int .i64 a0, .int .i64 a1, .slice a2 len2 cap2] w fun e w' => e = .returned (.bool true) ∧ Below w.heap.size w w' := by
  go_enter Try.func4, Try.ntmps4
  go_wp2_with (go_at_call 18; refine (alive2 _).mono ?_; rintro e w' ⟨rfl, hb⟩)
  all_goals
    go_ret
    exact ⟨rfl, by assumption⟩

set_option maxHeartbeats 1000000 in
theorem setRuns.into (n K : Nat) (a2 : Option Addr) (len2 cap2 : Nat) (z2 : Nat → Int) (w : World) (w2 : Ints .i64 w a2 len2 cap2 z2) (hn : n ≤ 200) (hK1 : 1 ≤ K) (hK : K ≤ 250) (hl : len2 ≤ 100) :
    Calls Try.prog 4 #[.int .i64 (n : Nat), .int .i64 (K : Nat), .slice a2 len2 cap2] w fun e w' => e = .returned (.bool true) ∧ Below w.heap.size w w' := by
  have W2 := Lib.hid w2
  clear w2
  have d1 : decide ((n : Int) < 0) = false := by rw [decide_eq_false_iff_not]; omega
  have d2 : decide (200 < (n : Int)) = false := by rw [decide_eq_false_iff_not]; omega
  have d3 : decide ((K : Int) < 1) = false := by rw [decide_eq_false_iff_not]; omega
  have d4 : decide (250 < (K : Int)) = false := by rw [decide_eq_false_iff_not]; omega
  have d5 : decide (100 < (len2 : Int)) = false := by rw [decide_eq_false_iff_not]; omega
  obtain ⟨B, hB⟩ : ∃ B, B = w.heap.size := ⟨_, rfl⟩
  have HB := Lib.hid hB
  clear hB
  go_enter Try.func4, Try.ntmps4
  go_wp2_with fail
  refine (alive2 _).mono ?_
  rintro e wa ⟨rfl, hba⟩
  have HBa := Lib.hid hba
  clear hba
  go_wp2_with fail
  refine (new_any n _ (by omega)).mono ?_
  rintro e w1 ⟨p, g, rfl, hs, hp, hg, hb⟩
  have en : setN (n : Int) = n := by unfold setN; omega
  rw [en] at hs
  clear en
  have hpB : B ≤ p := by rw [HB.out]; have := HBa.out.size; omega
  have hgB : B ≤ g := by rw [HB.out]; have := HBa.out.size; omega
  have HS0 := Lib.hid hs
  have HB1 : Hid (Below B w w1) := (show Below B w w1 by rw [HB.out]; exact HBa.out.trans (hb.mono HBa.out.size))
  clear hs hb hp hg
  go_wp2_with fail
  go_loopw [9] (fun i wr => ∃ k : Nat, k ≤ len2 ∧ i = .int .i64 k ∧ (∃ S, SetAt wr p g n S) ∧ Below B w wr) (fun i _ => len2 - (intOf i).toNat)
  case atStart => exact ⟨0, Nat.zero_le _, rfl, ⟨_, HS0.out⟩, HB1.out⟩
  case round =>
    obtain ⟨k, hk, rfl, ⟨S, hs⟩, hbr⟩ := hrel
    have HS := Lib.hid hs
    have HBr := Lib.hid hbr
    clear hs hbr
    by_cases hlt : k < len2
    · obtain ⟨b, off, rfl, hbl, hcell0⟩ := W2.out.cell k hlt
      have hcell : wr.cell? ⟨b, off + k, none⟩ = some (.int .i64 (z2 k)) := (HBr.out.cell (p := ⟨b, off + k, none⟩) (by rw [HB.out]; exact hbl)).trans hcell0
      clear hcell0
      go_wp2_with fail
      refine (add_any _ _ HS.out).mono ?_
      rintro e wn ⟨rfl, hs2, hg2⟩
      have HS2 := Lib.hid hs2
      have HB2 : Hid (Below B w wn) := below_keeps HBr.out (Keeps.of_grown hg2 (List.mem_singleton_self g)) (by rw [HB.out]; exact HBr.out.size) (by intro k hk; cases List.mem_singleton.1 hk; exact hgB)
      clear hs2 hg2
      go_wp2
      go_roundw
      case rel => first | exact ⟨k + 1, by omega, by go_num, ⟨_, HS2.out⟩, HB2.out⟩ | ((repeat apply Exists.intro); exact ⟨⟨k + 1, by omega, by go_num, ⟨_, HS2.out⟩, HB2.out⟩, rfl⟩)
      case measure => simp [intOf]; omega
    · obtain rfl : k = len2 := by omega
      go_wp2_with fail
      refine (setRun_at K _ HS.out (by omega) (by omega)).mono ?_
      rintro e wq ⟨r, rfl, hr, rfl⟩
      have HR := Lib.hid hr
      clear hr
      go_wp2_with fail
      go_loop [11] (fun i => ∃ m : Nat, m + K ≤ n + K + 1 ∧ i = .int .i64 m ∧ Hid (∀ j, j < m → ¬ runP n S K j)) (fun i => n + 1 - (intOf i).toNat)
      case atStart => exact ⟨0, by omega, rfl, fun j h => absurd h (by omega)⟩
      case round =>
        obtain ⟨m, hm, rfl, hno⟩ := hrel
        by_cases hin : m + K ≤ n
        · go_wp2_with fail
          go_loop [12, 13] (fun f j => ∃ (x : Nat) (b : Bool), m ≤ x ∧ x ≤ m + K ∧ j = .int .i64 x ∧ f = .bool b ∧ Hid (FreeTo S m x b)) (fun _ j => m + K - (intOf j).toNat)
          case atStart => exact ⟨m, true, by omega, by omega, rfl, rfl, ⟨fun _ y h1 h2 => absurd h1 (by omega), fun _ => rfl⟩⟩
          case round =>
            obtain ⟨x, b, hx1, hx2, rfl, rfl, hbx⟩ := hrel
            by_cases hxl : x < m + K
            · cases b
              · have N1 : Hid (FreeTo S m (x + 1) false) := (show FreeTo S m (x + 1) false from ⟨fun h => (by cases h), fun h => hbx.out.2 fun y h1 h2 => h y h1 (by omega)⟩)
                go_wp2
                go_round
                case rel => exact ⟨x + 1, false, by omega, by omega, by go_num, rfl, N1⟩
                case measure => simp [intOf]; omega
              · have D := Lib.hid (has_in x _ HS.out (by omega))
                cases hSx : S x
                · have D1 : Hid (Calls Try.prog 22 #[.pointer (some ⟨p, 0, none⟩), .int .i64 (x : Nat)] wr fun e w' => e = .returned (.bool false) ∧ wr = w') := by
                    have := D.out; rw [hSx] at this; exact this
                  have N1 : Hid (FreeTo S m (x + 1) true) := (show FreeTo S m (x + 1) true from ⟨fun _ y h1 h2 => by
                    by_cases hy : y = x
                    · rw [hy]; exact hSx
                    · exact hbx.out.1 rfl y h1 (by omega), fun _ => rfl⟩)
                  clear hSx
                  go_wp2_with (go_at_call 22; refine D1.out.mono ?_; rintro e w' ⟨rfl, rfl⟩)
                  go_round
                  case rel => exact ⟨x + 1, true, by omega, by omega, by go_num, rfl, N1⟩
                  case measure => simp [intOf]; omega
                · have D1 : Hid (Calls Try.prog 22 #[.pointer (some ⟨p, 0, none⟩), .int .i64 (x : Nat)] wr fun e w' => e = .returned (.bool true) ∧ wr = w') := by
                    have := D.out; rw [hSx] at this; exact this
                  have N1 : Hid (FreeTo S m (x + 1) false) := (show FreeTo S m (x + 1) false from ⟨fun h => (by cases h), fun h => by
                    have := h x hx1 (by omega)
                    rw [hSx] at this
                    cases this⟩)
                  clear hSx
                  go_wp2_with (go_at_call 22; refine D1.out.mono ?_; rintro e w' ⟨rfl, rfl⟩)
                  go_round
                  case rel => exact ⟨x + 1, false, by omega, by omega, by go_num, rfl, N1⟩
                  case measure => simp [intOf]; omega
            · obtain rfl : x = m + K := by omega
              cases b
              · have N1 : Hid (¬ runP n S K m) := (show ¬ runP n S K m from fun q => by have := hbx.out.2 fun y h1 h2 => q.2 y h1 h2; cases this)
                go_wp2
                go_round
                case rel => exact ⟨m + 1, by omega, by go_num, fun j hj => by
                  by_cases h : j = m
                  · rw [h]; exact N1.out
                  · exact hno.out j (by omega)⟩
                case measure => simp [intOf]; omega
              · have hz : (r == (m : Int)) = true := by
                  rw [beq_iff_eq]
                  exact HR.out.unique (.inr ⟨m, rfl, ⟨hin, fun y h1 h2 => hbx.out.1 rfl y h1 h2⟩, hno.out⟩)
                go_wp2
                go_ret
                exact ⟨rfl, by rw [← HB.out]; exact HBr.out⟩
        · have hz : (r == -1) = true := by
            rw [beq_iff_eq]
            exact HR.out.unique (.inl ⟨rfl, fun i q => hno.out i (by have := q.1; omega) q⟩)
          go_wp2
          go_ret
          exact ⟨rfl, by rw [← HB.out]; exact HBr.out⟩

theorem setRuns.walk (a0 : Int) (a1 : Int) (a2 : Option Addr) (len2 cap2 : Nat) (z2 : Nat → Int) (w : World) (w0 : (Lit.int .i64 a0).wf = true) (w1 : (Lit.int .i64 a1).wf = true) (w2 : Ints .i64 w a2 len2 cap2 z2) :
    Calls Try.prog 4 #[.int .i64 a0, .int .i64 a1, .slice a2 len2 cap2] w fun e w' => e = .returned (.bool true) ∧ Below w.heap.size w w' := by
  by_cases hd : 0 ≤ a0 ∧ a0 ≤ 200 ∧ 1 ≤ a1 ∧ a1 ≤ 250 ∧ len2 ≤ 100
  · obtain ⟨h1, h2, h3, h4, h5⟩ := hd
    obtain ⟨n, rfl⟩ := Int.eq_ofNat_of_zero_le h1
    obtain ⟨K, rfl⟩ := Int.eq_ofNat_of_zero_le (show 0 ≤ a1 by omega)
    exact setRuns.into n K a2 len2 cap2 z2 w w2 (by omega) (by omega) (by omega) h5
  · exact setRuns.out a0 a1 a2 len2 cap2 w hd
end Go.Proofs.Ytkfgpgllpegleaa

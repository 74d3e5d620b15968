/- bitset's Run and New compute what they say. -/
import Derived.Test.YtfiddodlpppdhaaSet
namespace Go.Proofs.Ytfiddodlpppdhaa
open Go.RowKit
set_option linter.unusedVariables false

/-- from i on so many are free -/
def runP (n : Nat) (S : Nat → Bool) (K i : Nat) : Prop := i + K ≤ n ∧ ∀ j, i ≤ j → j < i + K → S j = false
/-- what Run answers -/
def RunIs (n : Nat) (S : Nat → Bool) (K : Nat) (r : Int) : Prop := (r = -1 ∧ ∀ i, ¬ runP n S K i) ∨ ∃ i : Nat, r = i ∧ runP n S K i ∧ ∀ j, j < i → ¬ runP n S K j
theorem RunIs.unique {n : Nat} {S : Nat → Bool} {K : Nat} {r r' : Int} (h : RunIs n S K r) (h' : RunIs n S K r') : r = r' := by
  rcases h with ⟨rfl, h1⟩ | ⟨i, rfl, h1, h2⟩
  · rcases h' with ⟨rfl, _⟩ | ⟨i', rfl, h3, _⟩
    · rfl
    · exact absurd h3 (h1 i')
  · rcases h' with ⟨rfl, h3⟩ | ⟨i', rfl, h3, h4⟩
    · exact absurd h1 (h3 i)
    · have : ¬ i < i' := fun q => h4 i q h1
      have : ¬ i' < i := fun q => h2 i' q h3
      omega
theorem RunIs.congr {n : Nat} {S S' : Nat → Bool} {K : Nat} {r : Int} (h : RunIs n S K r) (hs : ∀ i, i < n → S i = S' i) : RunIs n S' K r := by
  have e : ∀ i, runP n S K i ↔ runP n S' K i := fun i => by
    unfold runP
    refine ⟨fun q => ⟨q.1, fun j h1 h2 => ?_⟩, fun q => ⟨q.1, fun j h1 h2 => ?_⟩⟩
    · rw [← hs j (by omega)]; exact q.2 j h1 h2
    · rw [hs j (by omega)]; exact q.2 j h1 h2
  rcases h with ⟨rfl, h1⟩ | ⟨i, rfl, h1, h2⟩
  · exact .inl ⟨rfl, fun i q => h1 i ((e i).2 q)⟩
  · exact .inr ⟨i, rfl, (e i).1 h1, fun j hj q => h2 j hj ((e j).2 q)⟩

/-- where the scan stands: the last row numbers are free, and no more of them -/
structure Scan (S : Nat → Bool) (K k row : Nat) : Prop where
  le : row ≤ k
  lt : row < K
  free : ∀ j, k ≤ j + row → j < k → S j = false
  stop : row = k ∨ S (k - row - 1) = true
  none : ∀ i, i + K ≤ k → ∃ j, i ≤ j ∧ j < i + K ∧ S j = true
theorem Scan.start (S : Nat → Bool) {K : Nat} (h : 1 ≤ K) : Scan S K 0 0 := ⟨Nat.le_refl _, by omega, fun j _ h => absurd h (by omega), .inl rfl, fun i h => absurd h (by omega)⟩
theorem Scan.taken {S : Nat → Bool} {K k row : Nat} (h : Scan S K k row) (hS : S k = true) : Scan S K (k + 1) 0 :=
  ⟨by omega, by have := h.lt; omega, fun j h1 h2 => absurd h1 (by omega), .inr (by simpa using hS), fun i hi => by
    by_cases he : i + K ≤ k
    · exact h.none i he
    · exact ⟨k, by have := h.lt; omega, by omega, hS⟩⟩
theorem Scan.more {S : Nat → Bool} {K k row : Nat} (h : Scan S K k row) (hS : S k = false) (hK : row + 1 ≠ K) : Scan S K (k + 1) (row + 1) := by
  have hl := h.lt
  have hle := h.le
  refine ⟨by omega, by omega, fun j h1 h2 => ?_, ?_, fun i hi => ?_⟩
  · by_cases hj : j = k
    · rw [hj]; exact hS
    · exact h.free j (by omega) (by omega)
  · rcases h.stop with h1 | h1
    · left; omega
    · right
      rw [show k + 1 - (row + 1) - 1 = k - row - 1 by omega]; exact h1
  · by_cases he : i + K ≤ k
    · exact h.none i he
    · rcases h.stop with h1 | h1
      · omega
      · exact ⟨k - row - 1, by omega, by omega, h1⟩
theorem Scan.found {S : Nat → Bool} {n K k row : Nat} (h : Scan S K k row) (hS : S k = false) (hK : row + 1 = K) (hk : k < n) : RunIs n S K ((k : Int) - (K : Int) + 1) := by
  have hle := h.le
  refine .inr ⟨k - row, by omega, ⟨by omega, fun j h1 h2 => ?_⟩, fun j hj q => ?_⟩
  · by_cases hj : j = k
    · rw [hj]; exact hS
    · exact h.free j (by omega) (by omega)
  · obtain ⟨x, h1, h2, h3⟩ := h.none j (by omega)
    rw [q.2 x h1 h2] at h3
    cases h3
theorem Scan.over {S : Nat → Bool} {n K row : Nat} (h : Scan S K n row) : RunIs n S K (-1) :=
  .inl ⟨rfl, fun i q => by
    obtain ⟨x, h1, h2, h3⟩ := h.none i q.1
    rw [q.2 x h1 h2] at h3
    cases h3⟩

/-- a result that Run may answer -/
def SomeRun (n : Nat) (S : Nat → Bool) (K : Nat) (w : World) (e : Ending) (w' : World) : Prop := ∃ r, e = .returned (.int .i64 r) ∧ RunIs n S K r ∧ w = w'

theorem setRun_in {p g n : Nat} {S : Nat → Bool} (K : Nat) (w : World) (h : SetAt w p g n S) (hK2 : 2 ≤ K) (hK3 : K ≤ 9223372036854775807) :
    Calls Try.prog 65 #[.pointer (some ⟨p, 0, none⟩), .int .i64 (K : Nat)] w (SomeRun n S K w) := by
  have hK : 1 ≤ K := by omega
  have C := Lib.hid (fun k hk => has_in k w h hk)
  obtain ⟨hc, _⟩ := h.cells
  have hn := h.small
  clear h
  go_enter Try.func65, Try.ntmps65
  go_wp2_with fail
  go_loop [5, 13] (fun r i => ∃ k row : Nat, k ≤ n ∧ i = .int .i64 k ∧ r = .int .i64 row ∧ Hid (Scan S K k row)) (fun _ i => n - (intOf i).toNat)
  case atStart => exact ⟨0, 0, Nat.zero_le _, rfl, rfl, Scan.start S hK⟩
  case round =>
    obtain ⟨k, row, hk, rfl, rfl, hs⟩ := hrel
    have hle := hs.out.le
    have hlt0 := hs.out.lt
    by_cases hlt : k < n
    · by_cases hS : S k = true
      · have D : Hid (Calls Try.prog 64 #[.pointer (some ⟨p, 0, none⟩), .int .i64 (k : Nat)] w fun e w' => e = .returned (.bool true) ∧ w = w') := by
          have := C.out k hlt; rw [hS] at this; exact this
        have HS := Lib.hid (hs.out.taken hS)
        have hz : ((0 : Int) == (K : Int)) = false := by rw [beq_eq_false_iff_ne]; omega
        clear hS
        go_wp2_with (go_at_call 64; refine D.out.mono ?_; rintro e w' ⟨rfl, rfl⟩)
        go_round
        case rel => exact ⟨k + 1, 0, by omega, by go_num, rfl, HS.out⟩
        case measure => simp [intOf]; omega
      · have hS' : S k = false := by simpa using hS
        have D : Hid (Calls Try.prog 64 #[.pointer (some ⟨p, 0, none⟩), .int .i64 (k : Nat)] w fun e w' => e = .returned (.bool false) ∧ w = w') := by
          have := C.out k hlt; rw [hS'] at this; exact this
        have HS' := Lib.hid hS'
        clear hS hS'
        by_cases he : row + 1 = K
        · have R := Lib.hid (hs.out.found HS'.out he hlt)
          have hz : (((row : Int) + 1) == (K : Int)) = true := by rw [beq_iff_eq]; omega
          have HE := Lib.hid he
          clear he
          go_wp2_with (go_at_call 64; refine D.out.mono ?_; rintro e w' ⟨rfl, rfl⟩)
          go_ret
          exact ⟨_, rfl, R.out, rfl⟩
        · have HS := Lib.hid (hs.out.more HS'.out he)
          have hz : (((row : Int) + 1) == (K : Int)) = false := by rw [beq_eq_false_iff_ne]; omega
          clear he
          go_wp2_with (go_at_call 64; refine D.out.mono ?_; rintro e w' ⟨rfl, rfl⟩)
          go_round
          case rel => exact ⟨k + 1, row + 1, by omega, by go_num, by go_num, HS.out⟩
          case measure => simp [intOf]; omega
    · have e : k = n := by omega
      subst e
      have R := Lib.hid hs.out.over
      go_wp2
      go_ret
      exact ⟨_, rfl, R.out, rfl⟩
theorem setRun_low {p g n : Nat} {S : Nat → Bool} (a : Int) (w : World) (h : SetAt w p g n S) (ha : a ≤ 1) :
    Calls Try.prog 65 #[.pointer (some ⟨p, 0, none⟩), .int .i64 a] w (SomeRun n S 1 w) := by
  have C := Lib.hid (fun k hk => has_in k w h hk)
  obtain ⟨hc, _⟩ := h.cells
  have hn := h.small
  clear h
  go_enter Try.func65, Try.ntmps65
  go_wp2_with fail
  go_loop [5, 13] (fun r i => ∃ k : Nat, k ≤ n ∧ i = .int .i64 k ∧ r = .int .i64 0 ∧ Hid (Scan S 1 k 0)) (fun _ i => n - (intOf i).toNat)
  case atStart => exact ⟨0, Nat.zero_le _, rfl, rfl, Scan.start S (Nat.le_refl _)⟩
  case round =>
    obtain ⟨k, hk, rfl, rfl, hs⟩ := hrel
    by_cases hlt : k < n
    · by_cases hS : S k = true
      · have D : Hid (Calls Try.prog 64 #[.pointer (some ⟨p, 0, none⟩), .int .i64 (k : Nat)] w fun e w' => e = .returned (.bool true) ∧ w = w') := by
          have := C.out k hlt; rw [hS] at this; exact this
        have HS := Lib.hid (hs.out.taken hS)
        clear hS
        go_wp2_with (go_at_call 64; refine D.out.mono ?_; rintro e w' ⟨rfl, rfl⟩)
        go_round
        case rel => exact ⟨k + 1, by omega, by go_num, rfl, HS.out⟩
        case measure => simp [intOf]; omega
      · have hS' : S k = false := by simpa using hS
        have D : Hid (Calls Try.prog 64 #[.pointer (some ⟨p, 0, none⟩), .int .i64 (k : Nat)] w fun e w' => e = .returned (.bool false) ∧ w = w') := by
          have := C.out k hlt; rw [hS'] at this; exact this
        have R := Lib.hid (hs.out.found hS' rfl hlt)
        clear hS hS'
        go_wp2_with (go_at_call 64; refine D.out.mono ?_; rintro e w' ⟨rfl, rfl⟩)
        go_ret
        refine ⟨(k : Int) - ((1 : Nat) : Int) + 1, ret_int ?_, R.out, rfl⟩
        omega
    · have e : k = n := by omega
      subst e
      have R := Lib.hid hs.out.over
      go_wp2
      go_ret
      exact ⟨_, rfl, R.out, rfl⟩
/-- how many Run looks for -/
def atLeast1 (a : Int) : Nat := (max 1 a).toNat
theorem setRun_any {p g n : Nat} {S : Nat → Bool} (a : Int) (w : World) (h : SetAt w p g n S) (ha : a ≤ 9223372036854775807) :
    Calls Try.prog 65 #[.pointer (some ⟨p, 0, none⟩), .int .i64 a] w (SomeRun n S (atLeast1 a) w) := by
  by_cases h1 : a ≤ 1
  · have e : atLeast1 a = 1 := by unfold atLeast1; omega
    rw [e]; exact setRun_low a w h h1
  · obtain ⟨K, rfl⟩ := Int.eq_ofNat_of_zero_le (show 0 ≤ a by omega)
    have e : atLeast1 (K : Int) = K := by unfold atLeast1; omega
    rw [e]; exact setRun_in K w h (by omega) (by omega)
theorem setRun_at {p g n : Nat} {S : Nat → Bool} (K : Nat) (w : World) (h : SetAt w p g n S) (hK1 : 1 ≤ K) (hK : K ≤ 9223372036854775807) :
    Calls Try.prog 65 #[.pointer (some ⟨p, 0, none⟩), .int .i64 (K : Nat)] w (SomeRun n S K w) := by
  have e : atLeast1 (K : Int) = K := by unfold atLeast1; omega
  have := setRun_any (K : Int) w h (by omega)
  rw [e] at this
  exact this
end Go.Proofs.Ytfiddodlpppdhaa

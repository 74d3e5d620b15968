/- The walk of the law SetFills: it answers true for every input. -/
import Derived.Test.YtkfgpgllpegleaaSetAlive
import Derived.Test.YtkfgpgllpegleaaSetDrop
import Derived.Test.YtkfgpgllpegleaaSetCount
namespace Go.Proofs.Ytkfgpgllpegleaa
open Go.RowKit
set_option linter.unusedVariables false

theorem fills_next {n i : Nat} {r : Int} (hi : i < n) (h : RunIs n (fun j => decide (j < i)) 1 r) : r = i :=
  h.unique (.inr ⟨i, rfl, ⟨by omega, fun j h1 h2 => by simp; omega⟩, fun j hj q => by
    have := q.2 j (Nat.le_refl _) (by omega)
    simp at this
    omega⟩)
theorem fills_full {n : Nat} {r : Int} {S : Nat → Bool} (hS : ∀ j, j < n → S j = true) {K : Nat} (hK : 1 ≤ K) (h : RunIs n S K r) : r = -1 :=
  h.unique (.inl ⟨rfl, fun i q => by
    have := q.2 i (Nat.le_refl _) (by omega)
    rw [hS i (by have := q.1; omega)] at this
    cases this⟩)
theorem fills_gone {n g : Nat} {r : Int} {S : Nat → Bool} (hg : g < n) (hS : ∀ j, j < n → S j = !decide (j = g)) (h : RunIs n S 1 r) : r = g :=
  h.unique (.inr ⟨g, rfl, ⟨by omega, fun j h1 h2 => by rw [hS j (by omega)]; simp; omega⟩, fun j hj q => by
    have := q.2 j (Nat.le_refl _) (by omega)
    rw [hS j (by omega)] at this
    simp at this
    omega⟩)
theorem fills_two {n g : Nat} {r : Int} {S : Nat → Bool} (hS : ∀ j, j < n → S j = !decide (j = g)) (h : RunIs n S 2 r) : r = -1 :=
  h.unique (.inl ⟨rfl, fun i q => by
    have h1 := q.2 i (Nat.le_refl _) (by omega)
    have h2 := q.2 (i + 1) (by omega) (by omega)
    have := q.1
    rw [hS _ (by omega)] at h1 h2
    simp at h1 h2
    omega⟩)

set_option maxHeartbeats 400000 in
theorem setFills.out (a0 : Int) (a1 : Int) (w : World) (hd : ¬ (1 ≤ a0 ∧ a0 ≤ 300 ∧ 0 ≤ a1 ∧ a1 < a0)) :
    Calls Try.prog 12 #[.int .i64 a0, .int .i64 a1] w fun e w' => e = .returned (.bool true) ∧ Below w.heap.size w w' := by
  go_enter Try.func12, Try.ntmps12
  go_wp2_with (go_at_call 18; refine (alive2 _).mono ?_; rintro e w' ⟨rfl, hb⟩)
  all_goals
    go_ret
    exact ⟨rfl, by assumption⟩

set_option maxHeartbeats 1000000 in
theorem setFills.into (n gone : Nat) (w : World) (hn : n ≤ 300) (hgn : gone < n) :
    Calls Try.prog 12 #[.int .i64 (n : Nat), .int .i64 (gone : Nat)] w fun e w' => e = .returned (.bool true) ∧ Below w.heap.size w w' := by
  have d1 : decide ((n : Int) < 1) = false := by rw [decide_eq_false_iff_not]; omega
  have d2 : decide (300 < (n : Int)) = false := by rw [decide_eq_false_iff_not]; omega
  have d3 : decide ((gone : Int) < 0) = false := by rw [decide_eq_false_iff_not]; omega
  have d4 : decide (n ≤ gone) = false := by rw [decide_eq_false_iff_not]; omega
  obtain ⟨B, hB⟩ : ∃ B, B = w.heap.size := ⟨_, rfl⟩
  have HB := Lib.hid hB
  clear hB
  go_enter Try.func12, Try.ntmps12
  go_wp2_with fail
  refine (alive2 _).mono ?_
  rintro e wa ⟨rfl, hba⟩
  have HBa := Lib.hid hba
  clear hba
  go_wp2_with fail
  refine (new_in n _ (by omega) (by omega)).mono ?_
  rintro e w1 ⟨p, g, rfl, hs, hp, hg, hb⟩
  have hpB : B ≤ p := by rw [HB.out]; have := HBa.out.size; omega
  have hgB : B ≤ g := by rw [HB.out]; have := HBa.out.size; omega
  have HS0 : Hid (SetAt w1 p g n (fun j => decide (j < 0))) := hs.congr fun i _ => by simp
  have HB1 : Hid (Below B w w1) := (show Below B w w1 by rw [HB.out]; exact HBa.out.trans (hb.mono HBa.out.size))
  clear hs hb hp hg
  go_wp2_with fail
  go_loopw [7] (fun i wr => ∃ k : Nat, k ≤ n ∧ i = .int .i64 k ∧ SetAt wr p g n (fun j => decide (j < k)) ∧ Below B w wr) (fun i _ => n - (intOf i).toNat)
  case atStart => exact ⟨0, Nat.zero_le _, rfl, HS0.out, HB1.out⟩
  case round =>
    obtain ⟨k, hk, rfl, hs, hbr⟩ := hrel
    have HS := Lib.hid hs
    have HBr := Lib.hid hbr
    clear hs hbr
    by_cases hlt : k < n
    · go_wp2_with fail
      refine (free_any _ HS.out).mono ?_
      rintro e wq ⟨r, rfl, hr, rfl⟩
      obtain rfl := fills_next hlt hr
      clear hr
      go_wp2_with fail
      refine (add_any _ _ HS.out).mono ?_
      rintro e wn ⟨rfl, hs2, hg2⟩
      have HS2 : Hid (SetAt wn p g n (fun j => decide (j < k + 1))) := hs2.congr fun j _ => by
        by_cases h1 : j = k
        · subst h1; simp; omega
        · by_cases h2 : j < k
          · simp [h1, h2]; omega
          · simp [h1, h2]; omega
      have HB2 : Hid (Below B w wn) := below_keeps HBr.out (Keeps.of_grown hg2 (List.mem_singleton_self g)) (by rw [HB.out]; exact HBr.out.size) (by intro k hk; cases List.mem_singleton.1 hk; exact hgB)
      have m0 : (mayB n (k : Int) && !decide ((k : Int).toNat < k)) = true := by unfold mayB; simp; omega
      rw [m0]
      clear hs2 hg2 m0
      go_wp2
      go_roundw
      case rel => first | exact ⟨k + 1, by omega, by go_num, HS2.out, HB2.out⟩ | ((repeat apply Exists.intro); exact ⟨⟨k + 1, by omega, by go_num, HS2.out, HB2.out⟩, rfl⟩)
      case measure => simp [intOf]; omega
    · obtain rfl : k = n := by omega
      go_wp2_with fail
      refine (free_any _ HS.out).mono ?_
      rintro e wq ⟨r, rfl, hr, rfl⟩
      obtain rfl := fills_full (fun j hj => by simpa using hj) (Nat.le_refl _) hr
      clear hr
      go_wp2_with fail
      refine (drop_any _ _ HS.out).mono ?_
      rintro e wn ⟨rfl, hs2, hg2⟩
      have hS2 : ∀ j, j < k → (fun j => if (0 ≤ (gone : Int) ∧ (gone : Int) < k) ∧ j = (gone : Int).toNat then false else decide (j < k)) j = !decide (j = gone) := fun j hj => by
        by_cases h1 : j = gone
        · subst h1; simp
        · simp [h1, hj]
      have HS2 : Hid (SetAt wn p g k (fun j => !decide (j = gone))) := hs2.congr hS2
      have HB2 : Hid (Below B w wn) := below_keeps HBr.out (Keeps.of_grown hg2 (List.mem_singleton_self g)) (by rw [HB.out]; exact HBr.out.size) (by intro k hk; cases List.mem_singleton.1 hk; exact hgB)
      have m0 : hasB k (fun j => decide (j < k)) (gone : Int) = true := by unfold hasB; simp; omega
      rw [m0]
      clear hs2 hg2 m0 hS2
      go_wp2_with fail
      refine (free_any _ HS2.out).mono ?_
      rintro e wq ⟨r, rfl, hr, rfl⟩
      obtain rfl := fills_gone hgn (fun _ _ => rfl) hr
      clear hr
      go_wp2_with fail
      refine (setRun_low 1 _ HS2.out (Int.le_refl _)).mono ?_
      rintro e wq ⟨r, rfl, hr, rfl⟩
      obtain rfl := fills_gone hgn (fun _ _ => rfl) hr
      clear hr
      go_wp2_with fail
      refine (setRun_at 2 _ HS2.out (by omega) (by omega)).mono ?_
      rintro e wq ⟨r, rfl, hr, rfl⟩
      obtain rfl := fills_two (fun _ _ => rfl) hr
      clear hr
      go_wp2_with fail
      refine (count_any _ HS2.out).mono ?_
      rintro e wq ⟨rfl, rfl⟩
      have hc : cnt (fun j => !decide (j = gone)) k + 1 = k := by
        have h1 := cnt_unset (S := fun _ => true) hgn rfl
        rw [cnt_all (S := fun _ => true) fun _ _ => rfl] at h1
        rw [cnt_congr (S' := fun j => if j = gone then false else true) fun i _ => by by_cases h : i = gone <;> simp [h]]
        exact h1
      have hz : ((cnt (fun j => !decide (j = gone)) k : Nat) : Int) = (k : Int) - 1 := by omega
      rw [hz]
      clear hc hz
      go_wp2
      go_ret
      exact ⟨rfl, by rw [← HB.out]; exact HB2.out⟩

theorem setFills.walk (a0 : Int) (a1 : Int) (w : World) (w0 : (Lit.int .i64 a0).wf = true) (w1 : (Lit.int .i64 a1).wf = true) :
    Calls Try.prog 12 #[.int .i64 a0, .int .i64 a1] w fun e w' => e = .returned (.bool true) ∧ Below w.heap.size w w' := by
  by_cases hd : 1 ≤ a0 ∧ a0 ≤ 300 ∧ 0 ≤ a1 ∧ a1 < a0
  · obtain ⟨h1, h2, h3, h4⟩ := hd
    obtain ⟨n, rfl⟩ := Int.eq_ofNat_of_zero_le (show 0 ≤ a0 by omega)
    obtain ⟨g, rfl⟩ := Int.eq_ofNat_of_zero_le h3
    exact setFills.into n g w (by omega) (by omega)
  · exact setFills.out a0 a1 w hd
end Go.Proofs.Ytkfgpgllpegleaa

/- The walk of the law GuardFinds: it answers true for every input. -/
import Derived.Test.YtahcepgcnpbkeaaGuardTellsWalk
import Derived.OneCell
namespace Go.Proofs.Ytahcepgcnpbkeaa
open Go.RowKit
set_option linter.unusedVariables false

theorem whole_same (f : Int → Int) (fr : Int) (n : Nat) : wholeB f fr n (fun j => f (wrap64 (fr + j))) = true := by simp [wholeB]
theorem whole_other (f g : Int → Int) (hfg : ∀ x, f x ≠ g x) (fr : Int) (n : Nat) (hn : 1 ≤ n) : wholeB g fr n (fun j => f (wrap64 (fr + j))) = false := by
  simp only [wholeB, decide_eq_false_iff_not]
  intro h
  exact hfg _ (h 0 (by omega))
theorem wrap64_bd (x : Int) : -9223372036854775808 ≤ wrap64 x ∧ wrap64 x ≤ 9223372036854775807 := by unfold wrap64; omega
theorem whole_moved (f : Int → Int) (hf : ∀ a b : Int, (-9223372036854775808 ≤ a ∧ a ≤ 9223372036854775807) → (-9223372036854775808 ≤ b ∧ b ≤ 9223372036854775807) → f a = f b → a = b) (fr : Int) (n : Nat) (hn : 1 ≤ n) :
    wholeB f (wrap64 (fr + 1)) n (fun j => f (wrap64 (fr + j))) = false := by
  simp only [wholeB, decide_eq_false_iff_not]
  intro h
  have h0 := hf _ _ (wrap64_bd _) (wrap64_bd _) (h 0 (by omega))
  unfold wrap64 at h0
  omega
theorem whole_turned (f : Int → Int) (fr : Int) (n a : Nat) (ha : a < n) (x : Int) (hx : x ≠ f (wrap64 (fr + a))) : wholeB f fr n (fun j => if j = a then x else f (wrap64 (fr + j))) = false := by
  simp only [wholeB, decide_eq_false_iff_not]
  intro h
  have := h a ha
  rw [if_pos rfl] at this
  exact hx this
theorem xor_turns (c b : Nat) (hc : c < 18446744073709551616) (hb : b < 18446744073709551616) (h : b ≠ 0) : bits .xor .u64 (c : Int) (b : Int) ≠ (c : Int) := by
  rw [u64_xor _ _ hc hb]
  intro e
  have e' : c ^^^ b = c := by exact_mod_cast e
  have h2 := congrArg (c ^^^ ·) e'
  simp only [← Nat.xor_assoc, Nat.xor_self, Nat.zero_xor] at h2
  exact h h2
theorem cn_u64 (n : Int) : ∃ x : Nat, x < 18446744073709551616 ∧ cn n = x := by
  obtain ⟨x, hx, _, h, _⟩ := cn_nat n
  exact ⟨_, Nat.xor_lt_two_pow (n := 64) hx (by decide), h⟩
theorem ps_u64 (n : Int) : ∃ x : Nat, x < 18446744073709551616 ∧ ps n = x := by
  obtain ⟨x, hx, _, _, h⟩ := cn_nat n
  exact ⟨_, Nat.xor_lt_two_pow (n := 64) hx (by decide), h⟩
theorem cn_wf (n : Int) : (Lit.int .u64 (cn n)).wf = true := by
  obtain ⟨x, hx, h⟩ := cn_u64 n
  rw [h]; exact WalkArith.wf_u64 (by omega)
theorem ps_wf (n : Int) : (Lit.int .u64 (ps n)).wf = true := by
  obtain ⟨x, hx, h⟩ := ps_u64 n
  rw [h]; exact WalkArith.wf_u64 (by omega)
theorem range_snoc (f : Nat → Value) (k : Nat) : (List.range k).map f ++ [f k] = (List.range (k + 1)).map f := by
  rw [List.range_succ, List.map_append]; rfl

theorem guardFinds.out (fr n a b : Int) (p : Bool) (w : World) (h : ¬ (1 ≤ n ∧ n ≤ 60 ∧ 0 ≤ a ∧ a < n ∧ b ≠ 0)) :
    Calls Try.prog 4 #[.int .i64 fr, .int .i64 n, .int .i64 a, .int .u64 b, .bool p] w fun e w' => e = .returned (.bool true) ∧ Below w.heap.size w w' := by
  by_cases hb : b = 0
  · subst hb
    clear h
    go_enter Try.func4, Try.ntmps4
    go_wp2_with (first | (go_at_call 14; refine (alive5 _).mono ?_; rintro e w' ⟨rfl, rfl⟩))
    all_goals
      go_ret
      exact ⟨rfl, Below.refl _ _⟩
  · have h' : ¬ (1 ≤ n ∧ n ≤ 60 ∧ 0 ≤ a ∧ a < n) := fun q => h ⟨q.1, q.2.1, q.2.2.1, q.2.2.2, hb⟩
    clear h
    go_enter Try.func4, Try.ntmps4
    go_wp2_with (first | (go_at_call 14; refine (alive5 _).mono ?_; rintro e w' ⟨rfl, rfl⟩))
    all_goals
      go_ret
      exact ⟨rfl, Below.refl _ _⟩

set_option maxHeartbeats 1000000 in
theorem guardFinds.atcn (fr : Int) (n a b : Nat) (w : World) (hfr : -9223372036854775808 ≤ fr ∧ fr ≤ 9223372036854775807) (hn : 1 ≤ n) (hn60 : n ≤ 60) (ha : a < n) (hb : b < 18446744073709551616) (hb0 : b ≠ 0) :
    Calls Try.prog 4 #[.int .i64 fr, .int .i64 n, .int .i64 a, .int .u64 b, .bool false] w fun e w' => e = .returned (.bool true) ∧ Below w.heap.size w w' := by
  obtain ⟨i0, hi, hz0, hz1, hz2⟩ := info_parts info24
  have HI := Lib.hid hi
  have HZ0 := Lib.hid hz0
  have HZ1 := Lib.hid hz1
  have HZ2 := Lib.hid hz2
  have HB0 := Lib.hid hb0
  have hbz : ((b : Int) == 0) = false := by rw [beq_eq_false_iff_ne]; omega
  have hbz' : (b == 0) = false := by rw [beq_eq_false_iff_ne]; omega
  have d1 : decide ((n : Int) < 1) = false := by rw [decide_eq_false_iff_not]; omega
  have d2 : decide (60 < (n : Int)) = false := by rw [decide_eq_false_iff_not]; omega
  have d3 : decide ((a : Int) < 0) = false := by rw [decide_eq_false_iff_not]; omega
  have d4 : decide (n ≤ a) = false := by rw [decide_eq_false_iff_not]; omega
  clear hi hz0 hz1 hz2 hb0
  obtain ⟨B, hB⟩ : ∃ B, B = w.heap.size := ⟨_, rfl⟩
  have HB := Lib.hid hB
  clear hB
  go_enter Try.func4, Try.ntmps4
  go_wp2_with (first | (go_at_call 14; refine (alive5 _).mono ?_; rintro e w' ⟨rfl, rfl⟩))
  go_loopw [12, 13] (fun v i wr => ∃ k : Nat, k ≤ n ∧ i = .int .i64 k ∧ wr.ownsRow B 24 1 v k ((List.range k).map fun (j : Nat) => Value.int .u64 (cn (wrap64 (fr + j)))) ∧ Below B w wr ∧ B ≤ wr.heap.size) (fun _ i _ => n - (intOf i).toNat)
  case atStart => exact ⟨0, Nat.zero_le _, rfl, World.ownsRow_nil _ _ _ _, Below.refl _ _, Nat.le_of_eq HB.out⟩
  case round =>
    obtain ⟨k, hk, rfl, hown, hbel, hsz⟩ := hrel
    have HO := Lib.hid hown
    have HBel := Lib.hid hbel
    clear hown hbel
    by_cases hlt : k < n
    · have HL1 : Hid (k + 1 ≤ maxLen) := (show k + 1 ≤ maxLen by unfold maxLen; omega)
      have HL2 : Hid ((k + 1) * 8 ≤ 140737488355328) := (show (k + 1) * 8 ≤ 140737488355328 by omega)
      go_wp2_with (first | (go_at_call 15; refine (canary_any _ _).mono ?_; rintro e w' ⟨rfl, rfl⟩) | (at_builtin; refine wpList_app (by rfl) (.tmp 52) (.tmp 57) 22 rfl B 24 i0 (.int .u64 0) 1 8 Try.underlying22 HI.out HZ0.out HZ1.out HZ2.out rfl (by decide) _ k _ rfl (HO.out.alloc _) (.slice (some ⟨wr.heap.size, 0, none⟩) 1 1) 1 [.int .u64 (cn (wrap64 (fr + k)))] rfl (new_one _ _ _) (one_of rfl) HL1.out HL2.out (by simp; omega) ?_))
      intro v' wn hown hgrow _
      have hb2 : Below B w wn := (HBel.out.alloc hsz _).grown hgrow (by simp; omega) (fun g hg => (HO.out.lt g hg).1)
      have hs2 : B ≤ wn.heap.size := Nat.le_trans (by simp; omega) hgrow.size
      rw [range_snoc] at hown
      have HO2 := Lib.hid hown
      have HB2 := Lib.hid hb2
      clear hown hb2 hgrow
      go_wp2
      go_roundw
      case rel => first | exact ⟨k + 1, by omega, by go_num, HO2.out, HB2.out, hs2⟩ | ((repeat apply Exists.intro); exact ⟨⟨k + 1, by omega, by go_num, HO2.out, HB2.out, hs2⟩, rfl⟩)
      case measure => simp [intOf]; omega
    · obtain rfl : k = n := by omega
      rcases HO.out.2 with ⟨_, h0⟩ | ⟨g, cap, cur, rfl, hgB, hg, hn', hc, hs, ht⟩
      · omega
      obtain ⟨a', c', e, hv⟩ := owns_ints (z := fun j => cn (wrap64 (fr + j))) HO.out (fun i _ => cn_wf _)
      cases e
      have c1 : Calls Try.prog 19 #[.slice (some ⟨g, 0, none⟩) k cap, .int .i64 fr, .bool false] wr fun e w' => e = .returned (.bool true) ∧ wr = w' := by
        have := whole_cn _ _ _ _ fr _ hv; rw [whole_same] at this; exact this
      have c2 : Calls Try.prog 19 #[.slice (some ⟨g, 0, none⟩) k cap, .int .i64 fr, .bool true] wr fun e w' => e = .returned (.bool false) ∧ wr = w' := by
        have := whole_ps _ _ _ _ fr _ hv; rw [whole_other cn ps (fun x => cn_ne_ps x) fr k hn] at this; exact this
      have c3 : Calls Try.prog 19 #[.slice (some ⟨g, 0, none⟩) k cap, .int .i64 (wrap64 (fr + 1)), .bool false] wr fun e w' => e = .returned (.bool false) ∧ wr = w' := by
        have := whole_cn _ _ _ _ (wrap64 (fr + 1)) _ hv; rw [whole_moved cn (fun _ _ => cn_inj) fr k hn] at this; exact this
      obtain ⟨x, hx, ex⟩ := cn_u64 (wrap64 (fr + a))
      have hcell : wr.cell? ⟨g, a, none⟩ = some (.int .u64 (cn (wrap64 (fr + a)))) := by
        obtain ⟨b', o', e, _, h⟩ := hv.cell a ha
        cases e
        simpa using h
      have hfree : wr.frozen? ⟨g, a, none⟩ = false := free_of_block hg
      have hxw : (Lit.int .u64 (bits .xor .u64 (cn (wrap64 (fr + a))) b)).wf = true := by
        rw [ex, u64_xor _ _ hx hb]
        have := Nat.xor_lt_two_pow (n := 64) hx hb
        exact WalkArith.wf_u64 (by omega)
      have hne : bits .xor .u64 (cn (wrap64 (fr + a))) b ≠ cn (wrap64 (fr + a)) := by rw [ex]; exact xor_turns x b hx hb HB0.out
      have hv2 := hv.set hg ha hxw
      rw [Nat.zero_add] at hv2
      have c4 : Calls Try.prog 19 #[.slice (some ⟨g, 0, none⟩) k cap, .int .i64 fr, .bool false] (wr.setCell ⟨g, a, none⟩ (.int .u64 (bits .xor .u64 (cn (wrap64 (fr + a))) b))) fun e w' => e = .returned (.bool false) ∧ wr.setCell ⟨g, a, none⟩ (.int .u64 (bits .xor .u64 (cn (wrap64 (fr + a))) b)) = w' := by
        have := whole_cn _ _ _ _ fr _ hv2; rw [whole_turned cn fr k a ha _ hne] at this; exact this
      have hend : Below w.heap.size w (wr.setCell ⟨g, a, none⟩ (.int .u64 (bits .xor .u64 (cn (wrap64 (fr + a))) b))) := by
        rw [← HB.out]; exact HBel.out.setCell hgB _
      have C1 := Lib.hid c1
      have C2 := Lib.hid c2
      have C3 := Lib.hid c3
      have C4 := Lib.hid c4
      have HE := Lib.hid hend
      clear c1 c2 c3 c4 hv hv2 hne hxw ex hx hg hn' hc hs ht hend
      go_wp2_with (first | ((with_reducible refine (C1.out).mono ?_); rintro e w' ⟨rfl, rfl⟩) | ((with_reducible refine (C2.out).mono ?_); rintro e w' ⟨rfl, rfl⟩) | ((with_reducible refine (C3.out).mono ?_); rintro e w' ⟨rfl, rfl⟩) | ((with_reducible refine (C4.out).mono ?_); rintro e w' ⟨rfl, rfl⟩))
      go_ret
      exact ⟨rfl, HE.out⟩

set_option maxHeartbeats 1000000 in
theorem guardFinds.atps (fr : Int) (n a b : Nat) (w : World) (hfr : -9223372036854775808 ≤ fr ∧ fr ≤ 9223372036854775807) (hn : 1 ≤ n) (hn60 : n ≤ 60) (ha : a < n) (hb : b < 18446744073709551616) (hb0 : b ≠ 0) :
    Calls Try.prog 4 #[.int .i64 fr, .int .i64 n, .int .i64 a, .int .u64 b, .bool true] w fun e w' => e = .returned (.bool true) ∧ Below w.heap.size w w' := by
  obtain ⟨i0, hi, hz0, hz1, hz2⟩ := info_parts info24
  have HI := Lib.hid hi
  have HZ0 := Lib.hid hz0
  have HZ1 := Lib.hid hz1
  have HZ2 := Lib.hid hz2
  have HB0 := Lib.hid hb0
  have hbz : ((b : Int) == 0) = false := by rw [beq_eq_false_iff_ne]; omega
  have hbz' : (b == 0) = false := by rw [beq_eq_false_iff_ne]; omega
  have d1 : decide ((n : Int) < 1) = false := by rw [decide_eq_false_iff_not]; omega
  have d2 : decide (60 < (n : Int)) = false := by rw [decide_eq_false_iff_not]; omega
  have d3 : decide ((a : Int) < 0) = false := by rw [decide_eq_false_iff_not]; omega
  have d4 : decide (n ≤ a) = false := by rw [decide_eq_false_iff_not]; omega
  clear hi hz0 hz1 hz2 hb0
  obtain ⟨B, hB⟩ : ∃ B, B = w.heap.size := ⟨_, rfl⟩
  have HB := Lib.hid hB
  clear hB
  go_enter Try.func4, Try.ntmps4
  go_wp2_with (first | (go_at_call 14; refine (alive5 _).mono ?_; rintro e w' ⟨rfl, rfl⟩))
  go_loopw [12, 13] (fun v i wr => ∃ k : Nat, k ≤ n ∧ i = .int .i64 k ∧ wr.ownsRow B 24 1 v k ((List.range k).map fun (j : Nat) => Value.int .u64 (ps (wrap64 (fr + j)))) ∧ Below B w wr ∧ B ≤ wr.heap.size) (fun _ i _ => n - (intOf i).toNat)
  case atStart => exact ⟨0, Nat.zero_le _, rfl, World.ownsRow_nil _ _ _ _, Below.refl _ _, Nat.le_of_eq HB.out⟩
  case round =>
    obtain ⟨k, hk, rfl, hown, hbel, hsz⟩ := hrel
    have HO := Lib.hid hown
    have HBel := Lib.hid hbel
    clear hown hbel
    by_cases hlt : k < n
    · have HL1 : Hid (k + 1 ≤ maxLen) := (show k + 1 ≤ maxLen by unfold maxLen; omega)
      have HL2 : Hid ((k + 1) * 8 ≤ 140737488355328) := (show (k + 1) * 8 ≤ 140737488355328 by omega)
      go_wp2_with (first | (go_at_call 17; refine (poison_any _ _).mono ?_; rintro e w' ⟨rfl, rfl⟩) | (at_builtin; refine wpList_app (by rfl) (.tmp 45) (.tmp 50) 22 rfl B 24 i0 (.int .u64 0) 1 8 Try.underlying22 HI.out HZ0.out HZ1.out HZ2.out rfl (by decide) _ k _ rfl (HO.out.alloc _) (.slice (some ⟨wr.heap.size, 0, none⟩) 1 1) 1 [.int .u64 (ps (wrap64 (fr + k)))] rfl (new_one _ _ _) (one_of rfl) HL1.out HL2.out (by simp; omega) ?_))
      intro v' wn hown hgrow _
      have hb2 : Below B w wn := (HBel.out.alloc hsz _).grown hgrow (by simp; omega) (fun g hg => (HO.out.lt g hg).1)
      have hs2 : B ≤ wn.heap.size := Nat.le_trans (by simp; omega) hgrow.size
      rw [range_snoc] at hown
      have HO2 := Lib.hid hown
      have HB2 := Lib.hid hb2
      clear hown hb2 hgrow
      go_wp2
      go_roundw
      case rel => first | exact ⟨k + 1, by omega, by go_num, HO2.out, HB2.out, hs2⟩ | ((repeat apply Exists.intro); exact ⟨⟨k + 1, by omega, by go_num, HO2.out, HB2.out, hs2⟩, rfl⟩)
      case measure => simp [intOf]; omega
    · obtain rfl : k = n := by omega
      rcases HO.out.2 with ⟨_, h0⟩ | ⟨g, cap, cur, rfl, hgB, hg, hn', hc, hs, ht⟩
      · omega
      obtain ⟨a', c', e, hv⟩ := owns_ints (z := fun j => ps (wrap64 (fr + j))) HO.out (fun i _ => ps_wf _)
      cases e
      have c1 : Calls Try.prog 19 #[.slice (some ⟨g, 0, none⟩) k cap, .int .i64 fr, .bool true] wr fun e w' => e = .returned (.bool true) ∧ wr = w' := by
        have := whole_ps _ _ _ _ fr _ hv; rw [whole_same] at this; exact this
      have c2 : Calls Try.prog 19 #[.slice (some ⟨g, 0, none⟩) k cap, .int .i64 fr, .bool false] wr fun e w' => e = .returned (.bool false) ∧ wr = w' := by
        have := whole_cn _ _ _ _ fr _ hv; rw [whole_other ps cn (fun x h => cn_ne_ps x h.symm) fr k hn] at this; exact this
      have c3 : Calls Try.prog 19 #[.slice (some ⟨g, 0, none⟩) k cap, .int .i64 (wrap64 (fr + 1)), .bool true] wr fun e w' => e = .returned (.bool false) ∧ wr = w' := by
        have := whole_ps _ _ _ _ (wrap64 (fr + 1)) _ hv; rw [whole_moved ps (fun _ _ => ps_inj) fr k hn] at this; exact this
      obtain ⟨x, hx, ex⟩ := ps_u64 (wrap64 (fr + a))
      have hcell : wr.cell? ⟨g, a, none⟩ = some (.int .u64 (ps (wrap64 (fr + a)))) := by
        obtain ⟨b', o', e, _, h⟩ := hv.cell a ha
        cases e
        simpa using h
      have hfree : wr.frozen? ⟨g, a, none⟩ = false := free_of_block hg
      have hxw : (Lit.int .u64 (bits .xor .u64 (ps (wrap64 (fr + a))) b)).wf = true := by
        rw [ex, u64_xor _ _ hx hb]
        have := Nat.xor_lt_two_pow (n := 64) hx hb
        exact WalkArith.wf_u64 (by omega)
      have hne : bits .xor .u64 (ps (wrap64 (fr + a))) b ≠ ps (wrap64 (fr + a)) := by rw [ex]; exact xor_turns x b hx hb HB0.out
      have hv2 := hv.set hg ha hxw
      rw [Nat.zero_add] at hv2
      have c4 : Calls Try.prog 19 #[.slice (some ⟨g, 0, none⟩) k cap, .int .i64 fr, .bool true] (wr.setCell ⟨g, a, none⟩ (.int .u64 (bits .xor .u64 (ps (wrap64 (fr + a))) b))) fun e w' => e = .returned (.bool false) ∧ wr.setCell ⟨g, a, none⟩ (.int .u64 (bits .xor .u64 (ps (wrap64 (fr + a))) b)) = w' := by
        have := whole_ps _ _ _ _ fr _ hv2; rw [whole_turned ps fr k a ha _ hne] at this; exact this
      have hend : Below w.heap.size w (wr.setCell ⟨g, a, none⟩ (.int .u64 (bits .xor .u64 (ps (wrap64 (fr + a))) b))) := by
        rw [← HB.out]; exact HBel.out.setCell hgB _
      have C1 := Lib.hid c1
      have C2 := Lib.hid c2
      have C3 := Lib.hid c3
      have C4 := Lib.hid c4
      have HE := Lib.hid hend
      clear c1 c2 c3 c4 hv hv2 hne hxw ex hx hg hn' hc hs ht hend
      go_wp2_with (first | ((with_reducible refine (C1.out).mono ?_); rintro e w' ⟨rfl, rfl⟩) | ((with_reducible refine (C2.out).mono ?_); rintro e w' ⟨rfl, rfl⟩) | ((with_reducible refine (C3.out).mono ?_); rintro e w' ⟨rfl, rfl⟩) | ((with_reducible refine (C4.out).mono ?_); rintro e w' ⟨rfl, rfl⟩))
      go_ret
      exact ⟨rfl, HE.out⟩

theorem guardFinds.walk (a0 : Int) (a1 : Int) (a2 : Int) (a3 : Int) (a4 : Bool) (w : World) (w0 : (Lit.int .i64 a0).wf = true) (w1 : (Lit.int .i64 a1).wf = true) (w2 : (Lit.int .i64 a2).wf = true) (w3 : (Lit.int .u64 a3).wf = true) :
    Calls Try.prog 4 #[.int .i64 a0, .int .i64 a1, .int .i64 a2, .int .u64 a3, .bool a4] w fun e w' => e = .returned (.bool true) ∧ Below w.heap.size w w' := by
  by_cases h : 1 ≤ a1 ∧ a1 ≤ 60 ∧ 0 ≤ a2 ∧ a2 < a1 ∧ a3 ≠ 0
  · obtain ⟨h1, h2, h3, h4, h5⟩ := h
    have b3 := bounds_u64 w3
    obtain ⟨n, rfl⟩ := Int.eq_ofNat_of_zero_le (show 0 ≤ a1 by omega)
    obtain ⟨a, rfl⟩ := Int.eq_ofNat_of_zero_le h3
    obtain ⟨b, rfl⟩ := Int.eq_ofNat_of_zero_le b3.1
    cases a4
    · exact guardFinds.atcn a0 n a b w (bounds_i64 w0) (by omega) (by omega) (by omega) (by omega) (by omega)
    · exact guardFinds.atps a0 n a b w (bounds_i64 w0) (by omega) (by omega) (by omega) (by omega) (by omega)
  · exact guardFinds.out a0 a1 a2 a3 a4 w h
end Go.Proofs.Ytahcepgcnpbkeaa

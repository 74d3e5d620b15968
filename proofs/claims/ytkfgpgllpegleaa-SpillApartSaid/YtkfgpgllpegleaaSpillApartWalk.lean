/- The walk of the law SpillApart: it answers true for every input. -/
import Derived.Test.YtkfgpgllpegleaaSpillAlive
namespace Go.Proofs.Ytkfgpgllpegleaa
open Go.RowKit Go.Maps
set_option linter.unusedVariables false

/-- how the table stands behind k Ups of one handle -/
structure Counts (X : Int → Nat) (T : Int → Bool) (a : Int) (L k head : Nat) : Prop where
  hd : head = min (min k L) 255
  extra : X a = min k L - head
  stick : T a = decide (L ≤ k)
  others : ∀ y, y ≠ a → X y = 0 ∧ T y = false
theorem Counts.start (a : Int) {L : Nat} (h : 1 ≤ L) : Counts (fun _ => 0) (fun _ => false) a L 0 0 :=
  ⟨by omega, by simp, by rw [eq_comm, decide_eq_false_iff_not]; omega, fun _ _ => ⟨rfl, rfl⟩⟩
theorem Counts.stuck {X : Int → Nat} {T : Int → Bool} {a : Int} {L k head : Nat} (h : Counts X T a L k head) (hk : L ≤ k) : Counts X T a L (k + 1) head :=
  ⟨by rw [h.hd]; omega, by rw [h.extra]; omega, by rw [h.stick, decide_eq_true hk, decide_eq_true (by omega)], h.others⟩
theorem Counts.step {X : Int → Nat} {T : Int → Bool} {a : Int} {L k head : Nat} (h : Counts X T a L k head) (hk : k < L) :
    Counts (upX X a (cutC (head : Int))) (upT (L : Int) X T a (cutC (head : Int))) a L (k + 1) (upR (cutC (head : Int))) := by
  obtain ⟨h1, h2, h3, h4⟩ := h
  have hc : cutC (head : Int) = head := cutC_in (by omega)
  rw [hc]
  have hT : T a = false := by rw [h3, decide_eq_false_iff_not]; omega
  refine ⟨?_, ?_, ?_, fun y hy => ⟨?_, ?_⟩⟩
  · unfold upR; split <;> omega
  · unfold upX upR growX
    split
    · omega
    · simp; omega
  · unfold upT stickT
    by_cases hr : (L : Int) ≤ (head : Int) + (X a : Nat) + 1
    · rw [if_pos hr]
      simp; omega
    · rw [if_neg hr, hT, eq_comm, decide_eq_false_iff_not]; omega
  · unfold upX growX
    split
    · exact (h4 y hy).1
    · simp [hy, (h4 y hy).1]
  · unfold upT stickT
    split
    · simp [hy, (h4 y hy).2]
    · exact (h4 y hy).2

theorem below_same {B : Nat} {w : World} {k : Nat} {w0 : World} (h : Below B w0 w) : Below B w0 (w.drewN k) := below_drewN h k

set_option maxRecDepth 100000 in
theorem spillApart.out (a0 : Int) (a1 : Int) (a2 : Int) (a3 : Int) (w : World) (hd : ¬ (1 ≤ a0 ∧ a0 ≤ 1000 ∧ 0 ≤ a3 ∧ a3 ≤ 1500)) :
    Calls Try.prog 3 #[.int .i64 a0, .int .i64 a1, .int .i64 a2, .int .i64 a3] w fun e w' => e = .returned (.bool true) ∧ Below w.heap.size w w' := by
  by_cases h12 : a1 = a2
  · have hb : (a1 == a2) = true := by simpa using h12
    have H12 := Lib.hid h12
    clear h12
    go_enter Try.func3, Try.ntmps3
    go_wp2_with (go_at_call 13; refine (alive9 _).mono ?_; rintro e w' ⟨rfl, hb⟩)
    all_goals
      go_ret
      exact ⟨rfl, by assumption⟩
  · have hb : (a1 == a2) = false := by simpa using h12
    have H12 := Lib.hid h12
    clear h12
    go_enter Try.func3, Try.ntmps3
    go_wp2_with (go_at_call 13; refine (alive9 _).mono ?_; rintro e w' ⟨rfl, hb⟩)
    all_goals
      go_ret
      exact ⟨rfl, by assumption⟩
set_option maxRecDepth 100000 in
theorem spillApart.same (a0 : Int) (a1 : Int) (a3 : Int) (w : World) :
    Calls Try.prog 3 #[.int .i64 a0, .int .i64 a1, .int .i64 a1, .int .i64 a3] w fun e w' => e = .returned (.bool true) ∧ Below w.heap.size w w' := by
  go_enter Try.func3, Try.ntmps3
  go_wp2_with (go_at_call 13; refine (alive9 _).mono ?_; rintro e w' ⟨rfl, hb⟩)
  all_goals
    go_ret
    exact ⟨rfl, by assumption⟩

set_option maxRecDepth 100000 in
set_option maxHeartbeats 1000000 in
theorem spillApart.above (L n : Nat) (a b : Int) (w : World) (hL1 : 1 ≤ L) (hL : L ≤ 1000) (hab : a ≠ b) (hn : n ≤ 1500) (ha : (Lit.int .i64 a).wf = true) (hb : (Lit.int .i64 b).wf = true) (hc : L < n) :
    Calls Try.prog 3 #[.int .i64 (L : Nat), .int .i64 a, .int .i64 b, .int .i64 (n : Nat)] w fun e w' => e = .returned (.bool true) ∧ Below w.heap.size w w' := by
  have d1 : decide ((L : Int) < 1) = false := by rw [decide_eq_false_iff_not]; omega
  have d2 : decide (1000 < (L : Int)) = false := by rw [decide_eq_false_iff_not]; omega
  have d3 : (a == b) = false := by simpa using hab
  have d4 : decide ((n : Int) < 0) = false := by rw [decide_eq_false_iff_not]; omega
  have d5 : decide (1500 < (n : Int)) = false := by rw [decide_eq_false_iff_not]; omega
  have d6 : decide (L ≤ n) = true := by rw [decide_eq_true_eq]; omega
  have d7 : decide (L < n) = true := by rw [decide_eq_true_eq]; omega
  have HCC := Lib.hid hc
  clear hc
  have HAB := Lib.hid hab
  have HA := Lib.hid ha
  have HBb := Lib.hid hb
  clear hab ha hb
  obtain ⟨B, hB⟩ : ∃ B, B = w.heap.size := ⟨_, rfl⟩
  have HB := Lib.hid hB
  clear hB
  go_enter Try.func3, Try.ntmps3
  go_wp2_with fail
  refine (alive9 _).mono ?_
  rintro en wa ⟨rfl, hba⟩
  have HBa := Lib.hid hba
  clear hba
  go_wp2_with fail
  refine (spillNew_any (L : Nat) _).mono ?_
  rintro en w1 ⟨p, e, s, rfl, hs, hp, he, hss, hbb⟩
  have el : limC (L : Int) = (L : Int) := by unfold limC; omega
  rw [el] at hs
  clear el
  have heB : B ≤ e := by rw [HB.out]; have := HBa.out.size; omega
  have hsB : B ≤ s := by rw [HB.out]; have := HBa.out.size; omega
  have HS0 := Lib.hid hs
  have HB1 : Hid (Below B w w1) := (show Below B w w1 by rw [HB.out]; exact HBa.out.trans (hbb.mono HBa.out.size))
  clear hs hbb hp he hss
  go_wp2_with fail
  go_loopw [11, 12] (fun hd i wr => ∃ k head : Nat, k ≤ n ∧ i = .int .i64 k ∧ hd = .int .i64 head ∧ (∃ X T, SpillAt wr p e s (2 * k) L X T ∧ Counts X T a L k head) ∧ Below B w wr) (fun _ i _ => n - (intOf i).toNat)
  case atStart => exact ⟨0, 0, Nat.zero_le _, rfl, rfl, ⟨_, _, HS0.out, Counts.start a hL1⟩, HB1.out⟩
  case round =>
    obtain ⟨k, head, hk, rfl, rfl, ⟨X, T, hs, hcn⟩, hbr⟩ := hrel
    have HS := Lib.hid hs
    have HC := Lib.hid hcn
    have HBr := Lib.hid hbr
    clear hs hcn hbr
    have h255 : head ≤ 255 := by rw [HC.out.hd]; omega
    by_cases hlt : k < n
    · by_cases hkL : L ≤ k
      · have c1 := up_stuck a head _ HS.out HA.out (by rw [HC.out.stick]; exact decide_eq_true hkL)
        rw [cutC_in h255] at c1
        have C1 := Lib.hid c1
        have HC2 := Lib.hid (HC.out.stuck hkL)
        have HS2 := Lib.hid (HS.out.mono (show 2 * k ≤ 2 * (k + 1) by omega))
        clear c1
        go_wp2_with (go_at_call 15; refine C1.out.mono ?_; rintro en w' ⟨rfl, rfl⟩)
        go_roundw
        case rel => first | exact ⟨k + 1, head, by omega, by go_num, rfl, ⟨_, _, HS2.out, HC2.out⟩, HBr.out⟩ | ((repeat apply Exists.intro); exact ⟨⟨k + 1, head, by omega, by go_num, rfl, ⟨_, _, HS2.out, HC2.out⟩, HBr.out⟩, rfl⟩)
        case measure => simp [intOf]; omega
      · have C1 := Lib.hid (up_any a head _ HS.out HA.out (by rw [HC.out.stick, decide_eq_false_iff_not]; exact hkL) (by rw [HC.out.extra]; omega) (by omega))
        have HC2 := Lib.hid (HC.out.step (by omega))
        go_wp2_with fail
        refine C1.out.mono ?_
        rintro en w2 ⟨rfl, hs2, hk2⟩
        have HS2 := Lib.hid hs2
        have HB2 := Lib.hid (below_two HBr.out hk2 (by rw [HB.out]; exact HBr.out.size) heB hsB)
        clear hs2 hk2
        go_wp2
        go_roundw
        case rel => first | exact ⟨k + 1, _, by omega, by go_num, rfl, ⟨_, _, HS2.out, HC2.out⟩, HB2.out⟩ | ((repeat apply Exists.intro); exact ⟨⟨k + 1, _, by omega, by go_num, rfl, ⟨_, _, HS2.out, HC2.out⟩, HB2.out⟩, rfl⟩)
        case measure => simp [intOf]; omega
    · obtain rfl : k = n := by omega
      have hTa := HC.out.stick
      have hXa := HC.out.extra
      have hhd := HC.out.hd
      obtain ⟨hXb, hTb⟩ := HC.out.others b (fun q => HAB.out q.symm)
      have c1 := fun wx (hx : SpillAt wx p e s (2 * k) L X T) => total_any b 0 wx hx HBb.out (by rw [hXb]; omega)
      have z1 : ((cutC 0 + X b : Nat) : Int) = 0 := by rw [hXb]; decide
      rw [z1] at c1
      have c2 := fun wx (hx : SpillAt wx p e s (2 * k) L X T) => sticky_any b wx hx HBb.out
      rw [hTb] at c2
      have c3 := fun wx (hx : SpillAt wx p e s (2 * k) L X T) => total_any a head wx hx HA.out (by rw [hXa]; omega)
      have z3 : ((cutC (head : Int) + X a : Nat) : Int) = (L : Int) := by have := HCC.out; rw [cutC_in h255, hXa, hhd]; omega
      rw [z3] at c3
      have c4 := fun wx (hx : SpillAt wx p e s (2 * k) L X T) => sticky_any a wx hx HA.out
      have z4 : T a = true := by rw [hTa]; exact decide_eq_true (Nat.le_of_lt HCC.out)
      rw [z4] at c4
      have c5 := fun wx (hx : SpillAt wx p e s (2 * k) L X T) => up_any b 0 wx hx HBb.out hTb (by rw [hXb]; omega) (by omega)
      have C1 := Lib.hid c1
      have C2 := Lib.hid c2
      have C3 := Lib.hid c3
      have C4 := Lib.hid c4
      have C5 := Lib.hid c5
      clear c1 c2 c3 c4 c5 z1 z3 z4 hTa hXa hhd hXb hTb
      go_wp2_with fail
      refine (C1.out _ HS.out).mono ?_
      rintro en wx ⟨rfl, m, rfl⟩
      go_wp2_with fail
      refine (C2.out _ (HS.out.drewN _)).mono ?_
      rintro en wx ⟨rfl, rfl⟩
      go_wp2_with fail
      refine (C3.out _ (HS.out.drewN _)).mono ?_
      rintro en wx ⟨rfl, m2, rfl⟩
      go_wp2_with fail
      refine (C4.out _ (HS.out.drewN _)).mono ?_
      rintro en wx ⟨rfl, rfl⟩
      go_wp2_with fail
      refine (C5.out _ (HS.out.drewN _)).mono ?_
      rintro en wx ⟨rfl, hs2, hk2⟩
      have r1 : ((upR (cutC 0) : Nat) : Int) = 1 := by decide
      rw [r1]
      have HE := Lib.hid (below_two (below_drewN HBr.out _) hk2 (by rw [HB.out]; exact HBr.out.size) heB hsB)
      clear hs2 hk2 r1
      go_wp2
      go_ret
      exact ⟨rfl, by rw [← HB.out]; exact HE.out⟩

set_option maxRecDepth 100000 in
set_option maxHeartbeats 1000000 in
theorem spillApart.equal (L n : Nat) (a b : Int) (w : World) (hL1 : 1 ≤ L) (hL : L ≤ 1000) (hab : a ≠ b) (hn : n ≤ 1500) (ha : (Lit.int .i64 a).wf = true) (hb : (Lit.int .i64 b).wf = true) (hc : L = n) :
    Calls Try.prog 3 #[.int .i64 (L : Nat), .int .i64 a, .int .i64 b, .int .i64 (n : Nat)] w fun e w' => e = .returned (.bool true) ∧ Below w.heap.size w w' := by
  have d1 : decide ((L : Int) < 1) = false := by rw [decide_eq_false_iff_not]; omega
  have d2 : decide (1000 < (L : Int)) = false := by rw [decide_eq_false_iff_not]; omega
  have d3 : (a == b) = false := by simpa using hab
  have d4 : decide ((n : Int) < 0) = false := by rw [decide_eq_false_iff_not]; omega
  have d5 : decide (1500 < (n : Int)) = false := by rw [decide_eq_false_iff_not]; omega
  have d6 : decide (L ≤ n) = true := by rw [decide_eq_true_eq]; omega
  have d7 : decide (L < n) = false := by rw [decide_eq_false_iff_not]; omega
  have HCC := Lib.hid hc
  clear hc
  have HAB := Lib.hid hab
  have HA := Lib.hid ha
  have HBb := Lib.hid hb
  clear hab ha hb
  obtain ⟨B, hB⟩ : ∃ B, B = w.heap.size := ⟨_, rfl⟩
  have HB := Lib.hid hB
  clear hB
  go_enter Try.func3, Try.ntmps3
  go_wp2_with fail
  refine (alive9 _).mono ?_
  rintro en wa ⟨rfl, hba⟩
  have HBa := Lib.hid hba
  clear hba
  go_wp2_with fail
  refine (spillNew_any (L : Nat) _).mono ?_
  rintro en w1 ⟨p, e, s, rfl, hs, hp, he, hss, hbb⟩
  have el : limC (L : Int) = (L : Int) := by unfold limC; omega
  rw [el] at hs
  clear el
  have heB : B ≤ e := by rw [HB.out]; have := HBa.out.size; omega
  have hsB : B ≤ s := by rw [HB.out]; have := HBa.out.size; omega
  have HS0 := Lib.hid hs
  have HB1 : Hid (Below B w w1) := (show Below B w w1 by rw [HB.out]; exact HBa.out.trans (hbb.mono HBa.out.size))
  clear hs hbb hp he hss
  go_wp2_with fail
  go_loopw [11, 12] (fun hd i wr => ∃ k head : Nat, k ≤ n ∧ i = .int .i64 k ∧ hd = .int .i64 head ∧ (∃ X T, SpillAt wr p e s (2 * k) L X T ∧ Counts X T a L k head) ∧ Below B w wr) (fun _ i _ => n - (intOf i).toNat)
  case atStart => exact ⟨0, 0, Nat.zero_le _, rfl, rfl, ⟨_, _, HS0.out, Counts.start a hL1⟩, HB1.out⟩
  case round =>
    obtain ⟨k, head, hk, rfl, rfl, ⟨X, T, hs, hcn⟩, hbr⟩ := hrel
    have HS := Lib.hid hs
    have HC := Lib.hid hcn
    have HBr := Lib.hid hbr
    clear hs hcn hbr
    have h255 : head ≤ 255 := by rw [HC.out.hd]; omega
    by_cases hlt : k < n
    · by_cases hkL : L ≤ k
      · have c1 := up_stuck a head _ HS.out HA.out (by rw [HC.out.stick]; exact decide_eq_true hkL)
        rw [cutC_in h255] at c1
        have C1 := Lib.hid c1
        have HC2 := Lib.hid (HC.out.stuck hkL)
        have HS2 := Lib.hid (HS.out.mono (show 2 * k ≤ 2 * (k + 1) by omega))
        clear c1
        go_wp2_with (go_at_call 15; refine C1.out.mono ?_; rintro en w' ⟨rfl, rfl⟩)
        go_roundw
        case rel => first | exact ⟨k + 1, head, by omega, by go_num, rfl, ⟨_, _, HS2.out, HC2.out⟩, HBr.out⟩ | ((repeat apply Exists.intro); exact ⟨⟨k + 1, head, by omega, by go_num, rfl, ⟨_, _, HS2.out, HC2.out⟩, HBr.out⟩, rfl⟩)
        case measure => simp [intOf]; omega
      · have C1 := Lib.hid (up_any a head _ HS.out HA.out (by rw [HC.out.stick, decide_eq_false_iff_not]; exact hkL) (by rw [HC.out.extra]; omega) (by omega))
        have HC2 := Lib.hid (HC.out.step (by omega))
        go_wp2_with fail
        refine C1.out.mono ?_
        rintro en w2 ⟨rfl, hs2, hk2⟩
        have HS2 := Lib.hid hs2
        have HB2 := Lib.hid (below_two HBr.out hk2 (by rw [HB.out]; exact HBr.out.size) heB hsB)
        clear hs2 hk2
        go_wp2
        go_roundw
        case rel => first | exact ⟨k + 1, _, by omega, by go_num, rfl, ⟨_, _, HS2.out, HC2.out⟩, HB2.out⟩ | ((repeat apply Exists.intro); exact ⟨⟨k + 1, _, by omega, by go_num, rfl, ⟨_, _, HS2.out, HC2.out⟩, HB2.out⟩, rfl⟩)
        case measure => simp [intOf]; omega
    · obtain rfl : k = n := by omega
      have hTa := HC.out.stick
      have hXa := HC.out.extra
      have hhd := HC.out.hd
      obtain ⟨hXb, hTb⟩ := HC.out.others b (fun q => HAB.out q.symm)
      have c1 := fun wx (hx : SpillAt wx p e s (2 * k) L X T) => total_any b 0 wx hx HBb.out (by rw [hXb]; omega)
      have z1 : ((cutC 0 + X b : Nat) : Int) = 0 := by rw [hXb]; decide
      rw [z1] at c1
      have c2 := fun wx (hx : SpillAt wx p e s (2 * k) L X T) => sticky_any b wx hx HBb.out
      rw [hTb] at c2
      have c3 := fun wx (hx : SpillAt wx p e s (2 * k) L X T) => total_any a head wx hx HA.out (by rw [hXa]; omega)
      have z3 : ((cutC (head : Int) + X a : Nat) : Int) = (k : Int) := by have := HCC.out; rw [cutC_in h255, hXa, hhd]; omega
      rw [z3] at c3
      have c4 := fun wx (hx : SpillAt wx p e s (2 * k) L X T) => sticky_any a wx hx HA.out
      have z4 : T a = true := by rw [hTa]; exact decide_eq_true (Nat.le_of_eq HCC.out)
      rw [z4] at c4
      have c5 := fun wx (hx : SpillAt wx p e s (2 * k) L X T) => up_any b 0 wx hx HBb.out hTb (by rw [hXb]; omega) (by omega)
      have C1 := Lib.hid c1
      have C2 := Lib.hid c2
      have C3 := Lib.hid c3
      have C4 := Lib.hid c4
      have C5 := Lib.hid c5
      clear c1 c2 c3 c4 c5 z1 z3 z4 hTa hXa hhd hXb hTb
      go_wp2_with fail
      refine (C1.out _ HS.out).mono ?_
      rintro en wx ⟨rfl, m, rfl⟩
      go_wp2_with fail
      refine (C2.out _ (HS.out.drewN _)).mono ?_
      rintro en wx ⟨rfl, rfl⟩
      go_wp2_with fail
      refine (C3.out _ (HS.out.drewN _)).mono ?_
      rintro en wx ⟨rfl, m2, rfl⟩
      go_wp2_with fail
      refine (C4.out _ (HS.out.drewN _)).mono ?_
      rintro en wx ⟨rfl, rfl⟩
      go_wp2_with fail
      refine (C5.out _ (HS.out.drewN _)).mono ?_
      rintro en wx ⟨rfl, hs2, hk2⟩
      have r1 : ((upR (cutC 0) : Nat) : Int) = 1 := by decide
      rw [r1]
      have HE := Lib.hid (below_two (below_drewN HBr.out _) hk2 (by rw [HB.out]; exact HBr.out.size) heB hsB)
      clear hs2 hk2 r1
      go_wp2
      go_ret
      exact ⟨rfl, by rw [← HB.out]; exact HE.out⟩

set_option maxRecDepth 100000 in
set_option maxHeartbeats 1000000 in
theorem spillApart.under (L n : Nat) (a b : Int) (w : World) (hL1 : 1 ≤ L) (hL : L ≤ 1000) (hab : a ≠ b) (hn : n ≤ 1500) (ha : (Lit.int .i64 a).wf = true) (hb : (Lit.int .i64 b).wf = true) (hc : n < L) :
    Calls Try.prog 3 #[.int .i64 (L : Nat), .int .i64 a, .int .i64 b, .int .i64 (n : Nat)] w fun e w' => e = .returned (.bool true) ∧ Below w.heap.size w w' := by
  have d1 : decide ((L : Int) < 1) = false := by rw [decide_eq_false_iff_not]; omega
  have d2 : decide (1000 < (L : Int)) = false := by rw [decide_eq_false_iff_not]; omega
  have d3 : (a == b) = false := by simpa using hab
  have d4 : decide ((n : Int) < 0) = false := by rw [decide_eq_false_iff_not]; omega
  have d5 : decide (1500 < (n : Int)) = false := by rw [decide_eq_false_iff_not]; omega
  have d6 : decide (L ≤ n) = false := by rw [decide_eq_false_iff_not]; omega
  have d7 : decide (L < n) = false := by rw [decide_eq_false_iff_not]; omega
  have HCC := Lib.hid hc
  clear hc
  have HAB := Lib.hid hab
  have HA := Lib.hid ha
  have HBb := Lib.hid hb
  clear hab ha hb
  obtain ⟨B, hB⟩ : ∃ B, B = w.heap.size := ⟨_, rfl⟩
  have HB := Lib.hid hB
  clear hB
  go_enter Try.func3, Try.ntmps3
  go_wp2_with fail
  refine (alive9 _).mono ?_
  rintro en wa ⟨rfl, hba⟩
  have HBa := Lib.hid hba
  clear hba
  go_wp2_with fail
  refine (spillNew_any (L : Nat) _).mono ?_
  rintro en w1 ⟨p, e, s, rfl, hs, hp, he, hss, hbb⟩
  have el : limC (L : Int) = (L : Int) := by unfold limC; omega
  rw [el] at hs
  clear el
  have heB : B ≤ e := by rw [HB.out]; have := HBa.out.size; omega
  have hsB : B ≤ s := by rw [HB.out]; have := HBa.out.size; omega
  have HS0 := Lib.hid hs
  have HB1 : Hid (Below B w w1) := (show Below B w w1 by rw [HB.out]; exact HBa.out.trans (hbb.mono HBa.out.size))
  clear hs hbb hp he hss
  go_wp2_with fail
  go_loopw [11, 12] (fun hd i wr => ∃ k head : Nat, k ≤ n ∧ i = .int .i64 k ∧ hd = .int .i64 head ∧ (∃ X T, SpillAt wr p e s (2 * k) L X T ∧ Counts X T a L k head) ∧ Below B w wr) (fun _ i _ => n - (intOf i).toNat)
  case atStart => exact ⟨0, 0, Nat.zero_le _, rfl, rfl, ⟨_, _, HS0.out, Counts.start a hL1⟩, HB1.out⟩
  case round =>
    obtain ⟨k, head, hk, rfl, rfl, ⟨X, T, hs, hcn⟩, hbr⟩ := hrel
    have HS := Lib.hid hs
    have HC := Lib.hid hcn
    have HBr := Lib.hid hbr
    clear hs hcn hbr
    have h255 : head ≤ 255 := by rw [HC.out.hd]; omega
    by_cases hlt : k < n
    · by_cases hkL : L ≤ k
      · have c1 := up_stuck a head _ HS.out HA.out (by rw [HC.out.stick]; exact decide_eq_true hkL)
        rw [cutC_in h255] at c1
        have C1 := Lib.hid c1
        have HC2 := Lib.hid (HC.out.stuck hkL)
        have HS2 := Lib.hid (HS.out.mono (show 2 * k ≤ 2 * (k + 1) by omega))
        clear c1
        go_wp2_with (go_at_call 15; refine C1.out.mono ?_; rintro en w' ⟨rfl, rfl⟩)
        go_roundw
        case rel => first | exact ⟨k + 1, head, by omega, by go_num, rfl, ⟨_, _, HS2.out, HC2.out⟩, HBr.out⟩ | ((repeat apply Exists.intro); exact ⟨⟨k + 1, head, by omega, by go_num, rfl, ⟨_, _, HS2.out, HC2.out⟩, HBr.out⟩, rfl⟩)
        case measure => simp [intOf]; omega
      · have C1 := Lib.hid (up_any a head _ HS.out HA.out (by rw [HC.out.stick, decide_eq_false_iff_not]; exact hkL) (by rw [HC.out.extra]; omega) (by omega))
        have HC2 := Lib.hid (HC.out.step (by omega))
        go_wp2_with fail
        refine C1.out.mono ?_
        rintro en w2 ⟨rfl, hs2, hk2⟩
        have HS2 := Lib.hid hs2
        have HB2 := Lib.hid (below_two HBr.out hk2 (by rw [HB.out]; exact HBr.out.size) heB hsB)
        clear hs2 hk2
        go_wp2
        go_roundw
        case rel => first | exact ⟨k + 1, _, by omega, by go_num, rfl, ⟨_, _, HS2.out, HC2.out⟩, HB2.out⟩ | ((repeat apply Exists.intro); exact ⟨⟨k + 1, _, by omega, by go_num, rfl, ⟨_, _, HS2.out, HC2.out⟩, HB2.out⟩, rfl⟩)
        case measure => simp [intOf]; omega
    · obtain rfl : k = n := by omega
      have hTa := HC.out.stick
      have hXa := HC.out.extra
      have hhd := HC.out.hd
      obtain ⟨hXb, hTb⟩ := HC.out.others b (fun q => HAB.out q.symm)
      have c1 := fun wx (hx : SpillAt wx p e s (2 * k) L X T) => total_any b 0 wx hx HBb.out (by rw [hXb]; omega)
      have z1 : ((cutC 0 + X b : Nat) : Int) = 0 := by rw [hXb]; decide
      rw [z1] at c1
      have c2 := fun wx (hx : SpillAt wx p e s (2 * k) L X T) => sticky_any b wx hx HBb.out
      rw [hTb] at c2
      have c3 := fun wx (hx : SpillAt wx p e s (2 * k) L X T) => total_any a head wx hx HA.out (by rw [hXa]; omega)
      have z3 : ((cutC (head : Int) + X a : Nat) : Int) = (k : Int) := by have := HCC.out; rw [cutC_in h255, hXa, hhd]; omega
      rw [z3] at c3
      have c4 := fun wx (hx : SpillAt wx p e s (2 * k) L X T) => sticky_any a wx hx HA.out
      have z4 : T a = false := by rw [hTa]; rw [decide_eq_false_iff_not]; have := HCC.out; omega
      rw [z4] at c4
      have c5 := fun wx (hx : SpillAt wx p e s (2 * k) L X T) => up_any b 0 wx hx HBb.out hTb (by rw [hXb]; omega) (by omega)
      have C1 := Lib.hid c1
      have C2 := Lib.hid c2
      have C3 := Lib.hid c3
      have C4 := Lib.hid c4
      have C5 := Lib.hid c5
      clear c1 c2 c3 c4 c5 z1 z3 z4 hTa hXa hhd hXb hTb
      go_wp2_with fail
      refine (C1.out _ HS.out).mono ?_
      rintro en wx ⟨rfl, m, rfl⟩
      go_wp2_with fail
      refine (C2.out _ (HS.out.drewN _)).mono ?_
      rintro en wx ⟨rfl, rfl⟩
      go_wp2_with fail
      refine (C3.out _ (HS.out.drewN _)).mono ?_
      rintro en wx ⟨rfl, m2, rfl⟩
      go_wp2_with fail
      refine (C4.out _ (HS.out.drewN _)).mono ?_
      rintro en wx ⟨rfl, rfl⟩
      go_wp2_with fail
      refine (C5.out _ (HS.out.drewN _)).mono ?_
      rintro en wx ⟨rfl, hs2, hk2⟩
      have r1 : ((upR (cutC 0) : Nat) : Int) = 1 := by decide
      rw [r1]
      have HE := Lib.hid (below_two (below_drewN HBr.out _) hk2 (by rw [HB.out]; exact HBr.out.size) heB hsB)
      clear hs2 hk2 r1
      go_wp2
      go_ret
      exact ⟨rfl, by rw [← HB.out]; exact HE.out⟩

theorem spillApart.walk (a0 : Int) (a1 : Int) (a2 : Int) (a3 : Int) (w : World) (w0 : (Lit.int .i64 a0).wf = true) (w1 : (Lit.int .i64 a1).wf = true) (w2 : (Lit.int .i64 a2).wf = true) (w3 : (Lit.int .i64 a3).wf = true) :
    Calls Try.prog 3 #[.int .i64 a0, .int .i64 a1, .int .i64 a2, .int .i64 a3] w fun e w' => e = .returned (.bool true) ∧ Below w.heap.size w w' := by
  by_cases h12 : a1 = a2
  · subst h12
    exact spillApart.same a0 a1 a3 w
  by_cases hd : 1 ≤ a0 ∧ a0 ≤ 1000 ∧ 0 ≤ a3 ∧ a3 ≤ 1500
  · obtain ⟨h1, h2, h3, h4⟩ := hd
    obtain ⟨L, rfl⟩ := Int.eq_ofNat_of_zero_le (show 0 ≤ a0 by omega)
    obtain ⟨n, rfl⟩ := Int.eq_ofNat_of_zero_le h3
    by_cases hc : L < n
    · exact spillApart.above L n a1 a2 w (by omega) (by omega) h12 (by omega) w1 w2 hc
    by_cases he : L = n
    · exact spillApart.equal L n a1 a2 w (by omega) (by omega) h12 (by omega) w1 w2 he
    · exact spillApart.under L n a1 a2 w (by omega) (by omega) h12 (by omega) w1 w2 (by omega)
  · exact spillApart.out a0 a1 a2 a3 w hd
end Go.Proofs.Ytkfgpgllpegleaa

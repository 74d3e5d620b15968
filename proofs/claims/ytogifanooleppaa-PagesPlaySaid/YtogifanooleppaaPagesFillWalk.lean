/- The walk of the law PagesFill: it answers true for every input. -/
import Derived.Test.YtogifanooleppaaPagesAlive
import Derived.Test.YtogifanooleppaaOpen
namespace Go.Proofs.Ytogifanooleppaa
open Go.RowKit Go.Maps
set_option linter.unusedVariables false

/-- the first pages are taken, one by one -/
def upT (i : Nat) : Nat → Option RunT := fun j => if 1 ≤ j ∧ j < i then some (j, 1, (j : Int)) else none
theorem upT_one : upT 1 = fun _ => none := by
  funext j
  unfold upT
  rw [if_neg (by omega)]
theorem upT_used {i j : Nat} (hi : 1 ≤ i) : usedB (upT i) j = decide (j < i) := by
  unfold usedB upT
  by_cases h0 : j = 0
  · subst h0; rw [decide_eq_true (by omega)]; rfl
  · by_cases h1 : j < i
    · rw [if_pos (by omega), decide_eq_true h1]; simp
    · rw [if_neg (by omega), decide_eq_false h1]; simp [h0]
theorem upT_succ {i : Nat} (hi : 1 ≤ i) : putT (upT i) i 1 (i : Int) 1 = upT (i + 1) := by
  funext j
  unfold putT upT
  by_cases h : j = i
  · subst h; rw [if_pos (by omega), if_pos (by omega)]
  · rw [if_neg (by omega)]
    by_cases h1 : 1 ≤ j ∧ j < i
    · rw [if_pos h1, if_pos (by omega)]
    · rw [if_neg h1, if_neg (by omega)]
theorem upT_free {n i : Nat} (hi : 1 ≤ i) (hn : i ≤ n) : freeT n (upT i) = n - i := by
  unfold freeT
  have e : n = i + (n - i) := by omega
  have h1 : cnt (usedB (upT i)) n = i := by
    rw [e, cnt_add, cnt_all fun j hj => by rw [upT_used hi]; exact decide_eq_true hj, cnt_zero fun j _ => by rw [upT_used hi]; exact decide_eq_false (by omega)]
    omega
  rw [h1]
theorem upT_run {n i : Nat} (hi : 1 ≤ i) (hn : i < n) : RunIs n (usedB (upT i)) 1 (i : Int) :=
  runIs_one hn (by rw [upT_used hi]; exact decide_eq_false (by omega)) (fun j hj => by rw [upT_used hi]; exact decide_eq_true hj)
theorem upT_full {n : Nat} (K : Nat) (hK : 1 ≤ K) (hn : 1 ≤ n) : RunIs n (usedB (upT n)) K (-1) :=
  runIs_none K hK (fun j hj => by rw [upT_used hn]; exact decide_eq_true hj)
section
variable {n gone : Nat}
theorem gap_used (hg : 1 ≤ gone) (hn : gone < n) (j : Nat) : usedB (cutT (upT n) gone 1) j = if j = gone then false else decide (j < n) := by
  by_cases h : j = gone
  · subst h
    rw [if_pos rfl]
    unfold usedB cutT
    rw [if_pos (by omega)]
    simp; omega
  · rw [if_neg h, ← upT_used (show 1 ≤ n by omega)]
    unfold usedB cutT
    rw [if_neg (by omega)]
theorem gap_two (hg : 1 ≤ gone) (hn : gone < n) : RunIs n (usedB (cutT (upT n) gone 1)) 2 (-1) :=
  .inl ⟨rfl, fun i q => by
    have h0 := q.1
    have h1 := q.2 i (Nat.le_refl _) (by omega)
    have h2 := q.2 (i + 1) (by omega) (by omega)
    rw [gap_used hg hn] at h1 h2
    by_cases e : i = gone
    · rw [if_neg (by omega), decide_eq_true (by omega)] at h2; cases h2
    · rw [if_neg e, decide_eq_true (by omega)] at h1; cases h1⟩
theorem gap_one (hg : 1 ≤ gone) (hn : gone < n) : RunIs n (usedB (cutT (upT n) gone 1)) 1 (gone : Int) :=
  runIs_one hn (by rw [gap_used hg hn, if_pos rfl]) (fun j hj => by rw [gap_used hg hn, if_neg (by omega)]; exact decide_eq_true (by omega))
theorem gap_free (hg : 1 ≤ gone) (hn : gone < n) : freeT n (cutT (upT n) gone 1) = 1 := by
  unfold freeT
  have h1 : cnt (usedB (upT n)) n = n := cnt_all fun j hj => by rw [upT_used (by omega)]; exact decide_eq_true hj
  have h2 := cnt_unset (S := usedB (upT n)) hn (by rw [upT_used (by omega)]; exact decide_eq_true hn)
  have h3 : cnt (usedB (cutT (upT n) gone 1)) n = cnt (fun j => if j = gone then false else usedB (upT n) j) n := cnt_congr fun j hj => by
    rw [gap_used hg hn]
    split
    · rfl
    · rw [upT_used (by omega)]
  omega
theorem gap_give (hg : 1 ≤ gone) (hn : gone < n) : canGive (upT n) (gone : Int) = true ∧ givenT (upT n) (gone : Int) = cutT (upT n) gone 1 := by
  have e : atT (upT n) (gone : Int) = some (gone, 1, (gone : Int)) := by
    unfold atT upT
    rw [if_pos (by omega), Int.toNat_natCast, if_pos (by omega)]
  unfold canGive givenT
  rw [e]
  simp
theorem gap_zero (hg : 1 ≤ gone) (hn : gone < n) (T : Nat → Option RunT) (mk : Int) : canGive (putT (cutT (upT n) gone 1) gone 1 mk 1) 0 = false := by
  have e : atT (putT (cutT (upT n) gone 1) gone 1 mk 1) 0 = none := by
    unfold atT putT cutT upT
    rw [if_pos (by omega), if_neg (by simp; omega), if_neg (by simp; omega), if_neg (by simp)]
  unfold canGive
  rw [e]
end
theorem pagesFill.out (a0 a1 : Int) (w : World) (h : ¬ (2 ≤ a0 ∧ a0 ≤ 200 ∧ 1 ≤ a1 ∧ a1 < a0)) :
    Calls Try.prog 7 #[.int .i64 a0, .int .i64 a1] w fun e w' => e = .returned (.bool true) ∧ Below w.heap.size w w' := by
  rcases (by omega : a0 < 2 ∨ (2 ≤ a0 ∧ 200 < a0) ∨ (2 ≤ a0 ∧ a0 ≤ 200 ∧ a1 < 1) ∨ (2 ≤ a0 ∧ a0 ≤ 200 ∧ 1 ≤ a1 ∧ a0 ≤ a1)) with h | h | h | h
  all_goals
    go_enter Try.func7, Try.ntmps7
    go_wp2_with (go_at_call 24; refine (alive4 _).mono ?_; rintro e w1 ⟨rfl, hb⟩)
    go_ret
    exact ⟨rfl, by assumption⟩
set_option maxRecDepth 100000 in
set_option maxHeartbeats 2000000 in
theorem pagesFill.inside (n gone : Nat) (w : World) (hn1 : 2 ≤ n) (hn2 : n ≤ 200) (hg1 : 1 ≤ gone) (hg2 : gone < n) :
    Calls Try.prog 7 #[.int .i64 (n : Nat), .int .i64 (gone : Nat)] w fun e w' => e = .returned (.bool true) ∧ Below w.heap.size w w' := by
  have d1 : decide ((n : Int) < 2) = false := by rw [decide_eq_false_iff_not]; omega
  have d2 : decide ((200 : Int) < (n : Int)) = false := by rw [decide_eq_false_iff_not]; omega
  have d3 : decide ((gone : Int) < 1) = false := by rw [decide_eq_false_iff_not]; omega
  have d4 : decide (n ≤ gone) = false := by rw [decide_eq_false_iff_not]; omega
  have HGN := Lib.hid (fun w => pnew_mid n w (by omega) (by omega))
  obtain ⟨B, hB⟩ : ∃ B, B = w.heap.size := ⟨_, rfl⟩
  have HBE := Lib.hid hB
  clear hB
  go_enter Try.func7, Try.ntmps7
  go_wp2_with fail
  refine (alive4 _).mono ?_
  rintro e wa ⟨rfl, hba⟩
  have HBa := Lib.hid hba
  clear hba
  go_wp2_with fail
  refine (HGN.out _).mono ?_
  rintro en w1 ⟨p, s, g, m, rfl, hp, hsz, hb⟩
  have HB1 : Hid (Below B w w1) := (show Below B w w1 by rw [HBE.out]; exact HBa.out.trans (hb.mono HBa.out.size))
  have hgB : B ≤ g := by rw [HBE.out]; have := HBa.out.size; omega
  have hmB : B ≤ m := by rw [HBE.out]; have := HBa.out.size; omega
  have HP1 : Hid (PagesAt w1 p s g m n 0 (upT 1)) := (show PagesAt w1 p s g m n 0 (upT 1) by rw [upT_one]; exact hp)
  clear hb hp hsz HGN
  go_wp2_with fail
  go_loopw [7] (fun i wr => ∃ k : Nat, i = .int .i64 ((k + 1 : Nat) : Int) ∧ k + 1 ≤ n ∧ Hid (PagesAt wr p s g m n k (upT (k + 1))) ∧ Hid (Below B w wr)) (fun i _ => n - (intOf i).toNat)
  case atStart => exact ⟨0, rfl, by omega, HP1, HB1⟩
  case round =>
    obtain ⟨k, rfl, hk, hp, hb⟩ := hrel
    by_cases hlt : k + 1 < n
    · have HF := Lib.hid (pfree_any wr hp.out)
      rw [upT_free (by omega) hk] at HF
      have e1 : ((n - (k + 1) : Nat) : Int) = (n : Int) - ((k + 1 : Nat) : Int) := by omega
      rw [e1] at HF
      have HT := Lib.hid (fun q => ptake_yes (k + 1) 1 ((k + 1 : Nat) : Int) _ (hp.out.drewN q) (by omega) (by omega) (by omega) (WalkArith.wf_i64 (by omega)) (upT_run (by omega) hlt))
      obtain ⟨i, hi⟩ : ∃ i, i = k + 1 := ⟨_, rfl⟩
      rw [← hi] at HF HT hlt ⊢
      have HI := Lib.hid hi
      clear e1 hi
      go_wp2_with fail
      refine HF.out.mono ?_
      rintro en w2 ⟨rfl, q, rfl⟩
      go_wp2_with fail
      refine (HT.out q).mono ?_
      rintro en w3 ⟨rfl, hp3, hk3⟩
      rw [upT_succ (by have := HI.out; omega)] at hp3
      have HP3 := Lib.hid hp3
      have HB3 : Hid (Below B w w3) := below_keeps2 (below_drewN hb.out q) hk3 (by rw [HBE.out]; exact hb.out.size) hgB hmB
      clear hp3 hk3
      go_wp2
      go_roundw
      case rel => first | exact ⟨i, by go_num, by omega, HP3.out.mono (by have := HI.out; omega), HB3⟩ | ((repeat apply Exists.intro); exact ⟨⟨i, by go_num, by omega, HP3.out.mono (by have := HI.out; omega), HB3⟩, rfl⟩)
      case measure => simp [intOf]; omega
    · obtain rfl : n = k + 1 := by omega
      have HT1 := Lib.hid (ptake_no 1 0 _ hp.out (by omega) (by omega) (by omega) (by decide) (upT_full 1 (by omega) (by omega)))
      have HG1 := Lib.hid (pgive_any (gone : Int) _ hp.out (WalkArith.wf_i64 (by omega)))
      rw [(gap_give hg1 hg2).1, (gap_give hg1 hg2).2] at HG1
      have G2 := Lib.hid (gap_two hg1 hg2)
      have G1 := Lib.hid (gap_one hg1 hg2)
      have GF := Lib.hid (gap_free hg1 hg2)
      have GZ := Lib.hid (gap_zero hg1 hg2 (upT 1) 9)
      generalize cutT (upT (k + 1)) gone 1 = G at HG1 G2 G1 GF GZ
      have HBr := hb
      clear hlt hb
      obtain ⟨n, hn⟩ : ∃ n, n = k + 1 := ⟨_, rfl⟩
      rw [← hn] at *
      clear hn
      go_wp2_with fail
      refine HT1.out.mono ?_
      rintro en w2 ⟨rfl, rfl⟩
      go_wp2_with fail
      refine HG1.out.mono ?_
      rintro en w3 ⟨rfl, hp3, hk3⟩
      have HB3 : Hid (Below B w w3) := below_keeps2 HBr.out hk3 (by rw [HBE.out]; exact HBr.out.size) hgB hmB
      have HT2 := Lib.hid (ptake_no 2 0 _ hp3 (by omega) (by omega) (by omega) (by decide) G2.out)
      have HF2 := Lib.hid (pfree_any _ hp3)
      rw [GF.out] at HF2
      have HT3 := Lib.hid (fun q => ptake_yes gone 1 9 _ (hp3.drewN q) (by omega) (by omega) (by omega) (by decide) G1.out)
      clear hp3 hk3 HT1 HG1
      go_wp2_with fail
      refine HT2.out.mono ?_
      rintro en w4 ⟨rfl, rfl⟩
      go_wp2_with fail
      refine HF2.out.mono ?_
      rintro en w4 ⟨rfl, q, rfl⟩
      go_wp2_with fail
      refine (HT3.out q).mono ?_
      rintro en w5 ⟨rfl, hp5, hk5⟩
      have HB5 : Hid (Below B w w5) := below_keeps2 (below_drewN HB3.out q) hk5 (by rw [HBE.out]; exact HB3.out.size) hgB hmB
      have HG5 := Lib.hid (pgive_any 0 _ hp5 (by decide))
      rw [GZ.out] at HG5
      clear hp5 hk5
      go_wp2_with fail
      refine HG5.out.mono ?_
      rintro en w6 ⟨rfl, _, hk6⟩
      have HB6 : Hid (Below B w w6) := below_keeps2 HB5.out hk6 (by rw [HBE.out]; exact HB5.out.size) hgB hmB
      clear hk6
      go_wp2
      go_ret
      exact ⟨rfl, by rw [← HBE.out]; exact HB6.out⟩
theorem pagesFill.walk (a0 a1 : Int) (w : World) (w0 : (Lit.int .i64 a0).wf = true) (w1 : (Lit.int .i64 a1).wf = true) :
    Calls Try.prog 7 #[.int .i64 a0, .int .i64 a1] w fun e w' => e = .returned (.bool true) ∧ Below w.heap.size w w' := by
  by_cases h : 2 ≤ a0 ∧ a0 ≤ 200 ∧ 1 ≤ a1 ∧ a1 < a0
  · obtain ⟨n, rfl⟩ : ∃ n : Nat, a0 = n := ⟨a0.toNat, by omega⟩
    obtain ⟨gone, rfl⟩ : ∃ n : Nat, a1 = n := ⟨a1.toNat, by omega⟩
    exact pagesFill.inside n gone w (by omega) (by omega) (by omega) (by omega)
  · exact pagesFill.out a0 a1 w h
end Go.Proofs.Ytogifanooleppaa

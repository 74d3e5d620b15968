/- The walk of the law LeastDrops: it answers true for every input. -/
import Derived.Test.YtogifanooleppaaLeastQ
namespace Go.Proofs.Ytogifanooleppaa
open Go.RowKit Go.Maps
set_option linter.unusedVariables false

/-- the k-th number that goes in -/
def fnum (k : Nat) : Int := ((k * 37 % 101 : Nat) : Int)
def fnums (n : Nat) : List Int := (List.range n).map fnum
theorem mem_fnums {n : Nat} {y : Int} : y ∈ fnums n ↔ ∃ k, k < n ∧ fnum k = y := by simp [fnums]
theorem fnums_nodup {n : Nat} (hn : n ≤ 100) : (fnums n).Nodup := by
  unfold fnums
  rw [List.nodup_iff_pairwise_ne, List.pairwise_map]
  refine List.Pairwise.imp_of_mem (R := fun a b => a < b) ?_ List.pairwise_lt_range
  intro a b ha hb hlt e
  rw [List.mem_range] at ha hb
  unfold fnum at e
  omega
theorem fnum_wf (k : Nat) : (Lit.int .i64 (fnum k)).wf = true := WalkArith.wf_i64 (by unfold fnum; omega)
/-- where the law stands: the Heap, and the list that it told -/
structure DrAt (B p m : Nat) (q : Option Nat) (N : Nat) (T : Int → Bool) (lv : Value) (D : List Int) (w wr : World) : Prop where
  ls : LsQ wr p m q N T
  row : RowS wr 1 lv D.length (intC D)
  far : ∀ g, lv.ownBlock = some g → g ∉ ownL p m q
  big : ∀ x ∈ ownL p m q, B ≤ x
  bel : Below B w wr
theorem DrAt.step {B p m : Nat} {q : Option Nat} {N N' : Nat} {T T' : Int → Bool} {lv : Value} {D : List Int} {w wr w2 : World} (h : DrAt B p m q N T lv D w wr) (hd : QDone wr p m q N' T' w2) : ∃ q', DrAt B p m q' N' T' lv D w w2 := by
  obtain ⟨q', h1, h2, h3⟩ := hd
  have hB : B ≤ wr.heap.size := Nat.le_trans (h.big p (by simp)) (Nat.le_of_lt (h.ls.lt p (by simp)))
  refine ⟨q', h1, h.row.keeps h3 h.far, fun g hg hm => ?_, fun x hx => ?_, below_keeps h.bel h3 hB h.big⟩
  · have hf := h.far g hg
    have hgl := h.row.lt g hg
    simp at hm hf
    rcases hm with rfl | rfl | hm
    · exact hf.1 rfl
    · exact hf.2.1 rfl
    · rcases h2 g hm with h2 | h2
      · exact hf.2.2 h2
      · omega
  · simp at hx
    rcases hx with rfl | rfl | hx
    · exact h.big _ (by simp)
    · exact h.big _ (by simp)
    · rcases h2 x hx with h2 | h2
      · exact h.big x (by simp [h2])
      · omega
theorem DrAt.congr {B p m : Nat} {q : Option Nat} {N : Nat} {T T' : Int → Bool} {lv : Value} {D : List Int} {w wr : World} (h : DrAt B p m q N T lv D w wr) (ht : ∀ y, T y = T' y) : DrAt B p m q N T' lv D w wr :=
  ⟨h.ls.congr ht, h.row, h.far, h.big, h.bel⟩
/-- what is left of a rising list but for one -/
def restT (D : List Int) (x : Int) (i : Nat) : Int → Bool := fun y => decide (y ≠ x) && decide (y ∈ D.drop i)
theorem drop_at {D : List Int} {i : Nat} (hi : i < D.length) : D.drop i = hg D i :: D.drop (i + 1) := by
  rw [List.drop_eq_getElem_cons hi]
  unfold hg
  rw [List.getElem?_eq_getElem hi]
  rfl
theorem restT_skip {D : List Int} {gone : Nat} (hg1 : gone < D.length) : ∀ y, restT D (hg D gone) gone y = restT D (hg D gone) (gone + 1) y := by
  intro y
  unfold restT
  rw [drop_at hg1]
  by_cases hy : y = hg D gone
  · simp [hy]
  · simp [hy]
theorem rising_ne {D : List Int} (hD : D.Pairwise (· < ·)) {i j : Nat} (hi : i < D.length) (hj : j < D.length) (hne : i ≠ j) : hg D i ≠ hg D j := by
  have e1 : hg D i = D[i] := by unfold hg; rw [List.getElem?_eq_getElem hi]; rfl
  have e2 : hg D j = D[j] := by unfold hg; rw [List.getElem?_eq_getElem hj]; rfl
  have hp := List.pairwise_iff_getElem.1 hD
  rw [e1, e2]
  rcases Nat.lt_or_gt_of_ne hne with h | h
  · have := hp i j hi hj h; omega
  · have := hp j i hj hi h; omega
theorem restT_least {D : List Int} (hD : D.Pairwise (· < ·)) {gone i : Nat} (hg1 : gone < D.length) (hi : i < D.length) (hne : i ≠ gone) :
    restT D (hg D gone) i (hg D i) = true ∧ (∀ y, restT D (hg D gone) i y = true → hg D i ≤ y) ∧ ∀ y, (!decide (some (hg D i) = some y) && restT D (hg D gone) i y) = restT D (hg D gone) (i + 1) y := by
  have h1 := rising_ne hD hi hg1 hne
  have hp : (D.drop i).Pairwise (· < ·) := hD.sublist (List.drop_sublist _ _)
  rw [drop_at hi, List.pairwise_cons] at hp
  refine ⟨?_, fun y hy => ?_, fun y => ?_⟩
  · unfold restT; rw [drop_at hi]; simp [h1]
  · unfold restT at hy
    rw [drop_at hi] at hy
    simp at hy
    rcases hy.2 with rfl | hy
    · exact Int.le_refl _
    · exact Int.le_of_lt (hp.1 y hy)
  · unfold restT
    rw [drop_at hi]
    by_cases hy : y = hg D i
    · subst hy
      have : hg D i ∉ D.drop (i + 1) := fun hm => by have := hp.1 _ hm; omega
      simp [this]
    · have : ¬ hg D i = y := fun e => hy e.symm
      simp [hy, this]
theorem leastDrops.out (a0 a1 : Int) (w : World) (h : a0 < 1 ∨ 100 < a0 ∨ a1 < 0 ∨ a0 ≤ a1) :
    Calls Try.prog 12 #[.int .i64 a0, .int .i64 a1] w fun e w' => e = .returned (.bool true) ∧ Below w.heap.size w w' := by
  rcases (by omega : a0 < 1 ∨ (1 ≤ a0 ∧ 100 < a0) ∨ (1 ≤ a0 ∧ a0 ≤ 100 ∧ a1 < 0) ∨ (1 ≤ a0 ∧ a0 ≤ 100 ∧ 0 ≤ a1 ∧ a0 ≤ a1)) with h | h | h | h
  all_goals
    go_enter Try.func12, Try.ntmps12
    go_wp2_with (go_at_call 19; refine (alive10 _).mono ?_; rintro e w1 ⟨rfl, hb⟩)
    go_ret
    exact ⟨rfl, by assumption⟩
set_option maxRecDepth 100000 in
set_option maxHeartbeats 4000000 in
theorem leastDrops.inside (n gone : Nat) (w : World) (hn : 1 ≤ n) (hn2 : n ≤ 100) (hgo : gone < n) :
    Calls Try.prog 12 #[.int .i64 (n : Nat), .int .i64 (gone : Nat)] w fun e w' => e = .returned (.bool true) ∧ Below w.heap.size w w' := by
  have d1 : decide ((n : Int) < 1) = false := by rw [decide_eq_false_iff_not]; omega
  have d2 : decide ((100 : Int) < (n : Int)) = false := by rw [decide_eq_false_iff_not]; omega
  have d3 : decide ((gone : Int) < 0) = false := by rw [decide_eq_false_iff_not]; omega
  have d4 : decide ((n : Int) ≤ (gone : Int)) = false := by rw [decide_eq_false_iff_not]; omega
  have HN := Lib.hid (fun w => qNew w)
  obtain ⟨B, hB⟩ : ∃ B, B = w.heap.size := ⟨_, rfl⟩
  have HBE := Lib.hid hB
  clear hB
  go_enter Try.func12, Try.ntmps12
  go_wp2_with fail
  refine (alive10 _).mono ?_
  rintro e wa ⟨rfl, hba⟩
  have HBa := Lib.hid hba
  clear hba
  go_wp2_with fail
  refine (HN.out _).mono ?_
  rintro e w1 ⟨p, m, rfl, h1, h2, hb1⟩
  have HS0 : Hid (∃ q, DrAt B p m q 0 (fun y => decide (y ∈ fnums 0)) (.slice none 0 0) [] w w1) := (show ∃ q, DrAt B p m q 0 (fun y => decide (y ∈ fnums 0)) (.slice none 0 0) [] w w1 by
    have s1 := HBa.out.size
    rw [HBE.out]
    refine ⟨none, h1.congr fun y => by simp [fnums], RowS.nil _ _, (fun g hg => by cases hg), fun x hx => ?_, HBa.out.trans (hb1.mono s1)⟩
    simp at hx
    rcases hx with rfl | rfl <;> omega)
  clear h1 h2 hb1
  go_wp2_with fail
  go_loopw [7] (fun iv wr => ∃ (k : Nat), iv = .int .i64 (k : Nat) ∧ k ≤ n ∧ Hid (∃ q, DrAt B p m q k (fun y => decide (y ∈ fnums k)) (.slice none 0 0) [] w wr)) (fun iv _ => n - (intOf iv).toNat)
  case atStart => exact ⟨0, rfl, Nat.zero_le _, HS0⟩
  case round =>
    obtain ⟨k, rfl, hk, hs⟩ := hrel
    obtain ⟨wo, rfl⟩ : ∃ wo : World, wo = wr := ⟨_, rfl⟩
    obtain ⟨q, hq⟩ := hs.out
    have HQ := Lib.hid hq
    clear hs hq
    by_cases hlt : k < n
    · have HP := Lib.hid (qPush (fnum k) wo HQ.out.ls (fnum_wf k) (by omega))
      have hm : Int.tmod ((k : Int) * 37) 101 = fnum k := by
        rw [Int.tmod_eq_emod_of_nonneg (by omega)]; unfold fnum; omega
      have hi1 : (k : Int) < (n : Int) := by omega
      generalize hf : fnum k = x at HP hm
      have HF := Lib.hid hf
      clear hf
      go_wp2_with fail
      refine HP.out.mono ?_
      rintro e w2 ⟨rfl, hd⟩
      have HS2 : Hid (∃ q, DrAt B p m q (k + 1) (fun y => decide (y ∈ fnums (k + 1))) (.slice none 0 0) [] w w2) := (show ∃ q, DrAt B p m q (k + 1) (fun y => decide (y ∈ fnums (k + 1))) (.slice none 0 0) [] w w2 by
        obtain ⟨q', h'⟩ := HQ.out.step hd
        refine ⟨q', h'.congr fun y => ?_⟩
        rw [← HF.out]
        unfold fnums
        rw [List.range_succ, List.map_append]
        by_cases hy : y = fnum k <;> simp [hy])
      clear hd
      go_wp2
      go_roundw
      case rel => first | exact ⟨k + 1, by go_num, by omega, HS2⟩ | ((repeat apply Exists.intro); exact ⟨⟨k + 1, by go_num, by omega, HS2⟩, rfl⟩)
      case measure => simp [intOf]; omega
    · obtain rfl : k = n := by omega
      obtain ⟨D, hD⟩ : ∃ D, D = risen (fnums k) := ⟨_, rfl⟩
      have hDs : D.Pairwise (· < ·) := by rw [hD]; exact risen_lt (fnums_nodup hn2)
      have hDl : D.length = k := by rw [hD]; unfold risen fnums; rw [List.length_mergeSort]; simp
      have hDm : ∀ x, x ∈ D ↔ x ∈ fnums k := by intro x; rw [hD, mem_risen]
      have HL := Lib.hid (qList D wo HQ.out.ls (by omega) hDs (fun x => by rw [hDm x]; simp))
      have HDW := Lib.hid (fun x (hx : x ∈ D) => (show (Lit.int .i64 x).wf = true from HQ.out.ls.wf (y := x) (by simpa using (hDm x).1 hx)))
      have HDS := Lib.hid hDs
      have HDM := Lib.hid hDm
      clear hlt hD hDs hDm
      go_wp2_with fail
      refine HL.out.mono ?_
      rintro e w2 ⟨v, rfl, hr, hnw, hb2⟩
      have HS1 : Hid (DrAt B p m q k (fun y => decide (y ∈ fnums k)) v D w w2) := (show DrAt B p m q k (fun y => decide (y ∈ fnums k)) v D w w2 by
        have hB : B ≤ wo.heap.size := Nat.le_trans (HQ.out.big p (by simp)) (Nat.le_of_lt (HQ.out.ls.lt p (by simp)))
        refine ⟨HQ.out.ls.below hb2, hr, fun g hg hm => ?_, HQ.out.big, HQ.out.bel.trans (hb2.mono hB)⟩
        have := hnw g hg
        have := HQ.out.ls.lt g hm
        omega)
      obtain ⟨a, cap, rfl, _⟩ := hr.read
      rw [hDl] at HS1 hr
      obtain ⟨g, off, rfl, hg1, hcell⟩ := row_cell hr hDl.symm hgo
      have hx : D[gone]? = some (hg D gone) := hg_some (by omega)
      have HXM := Lib.hid (List.mem_of_getElem? hx)
      have HXE : Hid (∃ x, x = hg D gone) := ⟨_, rfl⟩
      have HD1 := Lib.hid (qDrop (hg D gone) w2 HS1.out.ls (HDW.out _ HXM.out) (by omega))
      rw [show decide (hg D gone ∈ fnums k) = true from decide_eq_true ((HDM.out _).1 HXM.out)] at HD1
      obtain ⟨x, hxe⟩ := HXE.out
      have HX := Lib.hid hxe
      rw [← hxe] at hcell HD1
      have hgo0 : (0 : Int) ≤ (gone : Int) := by omega
      have hgo1 : (gone : Int) < (k : Int) := by omega
      have hDl2 : (D.length : Int) = (k : Int) := by omega
      clear hx hxe hr hnw hb2 HXE
      go_wp2_with fail
      refine HD1.out.mono ?_
      rintro e w3 ⟨rfl, hd3⟩
      obtain ⟨q3, h3⟩ := HS1.out.step hd3
      have HD2 := Lib.hid (qDrop x w3 h3.ls (by rw [HX.out]; exact HDW.out _ HXM.out) (by omega))
      rw [show (!decide (x = x) && decide (x ∈ fnums k)) = false by simp] at HD2
      have H3 := Lib.hid h3
      clear h3 hd3
      go_wp2_with fail
      refine HD2.out.mono ?_
      rintro e w4 ⟨rfl, hd4⟩
      have HS4 : Hid (∃ q, DrAt B p m q (k + 2) (restT D (hg D gone) 0) (.slice (some ⟨g, off, none⟩) k cap) D w w4) := (show ∃ q, DrAt B p m q (k + 2) (restT D (hg D gone) 0) (.slice (some ⟨g, off, none⟩) k cap) D w w4 by
        obtain ⟨q4, h4⟩ := H3.out.step hd4
        refine ⟨q4, h4.congr fun y => ?_⟩
        unfold restT
        rw [← HX.out, List.drop_zero, show decide (y ∈ D) = decide (y ∈ fnums k) by rw [decide_eq_decide]; exact HDM.out y]
        by_cases hy : y = x <;> simp [hy])
      clear hd4 hcell
      go_wp2_with fail
      go_loopw [12] (fun iv wr => ∃ (j : Nat), iv = .int .i64 (j : Nat) ∧ j ≤ k ∧ Hid (∃ q, DrAt B p m q (k + 2) (restT D (hg D gone) j) (.slice (some ⟨g, off, none⟩) k cap) D w wr)) (fun iv _ => k - (intOf iv).toNat)
      case atStart => exact ⟨0, rfl, Nat.zero_le _, HS4⟩
      case round =>
        obtain ⟨j, rfl, hj, hs⟩ := hrel
        obtain ⟨wi, rfl⟩ : ∃ wi : World, wi = wr := ⟨_, rfl⟩
        obtain ⟨q5, hq5⟩ := hs.out
        have HQ5 := Lib.hid hq5
        clear hs hq5
        by_cases hlt2 : j < k
        · have hj1 : (j : Int) < (k : Int) := by omega
          have hj0 : (0 : Int) ≤ (j : Int) := by omega
          by_cases hjg : j = gone
          · have hb : ((j : Int) == (gone : Int)) = true := by rw [beq_iff_eq]; omega
            have HS6 : Hid (∃ q, DrAt B p m q (k + 2) (restT D (hg D gone) (j + 1)) (.slice (some ⟨g, off, none⟩) k cap) D w wi) := (show ∃ q, DrAt B p m q (k + 2) (restT D (hg D gone) (j + 1)) (.slice (some ⟨g, off, none⟩) k cap) D w wi from ⟨q5, HQ5.out.congr fun y => by
              rw [hjg]; exact restT_skip (by omega) y⟩)
            clear hjg
            go_wp2
            go_roundw
            case rel => first | exact ⟨j + 1, by go_num, by omega, HS6⟩ | ((repeat apply Exists.intro); exact ⟨⟨j + 1, by go_num, by omega, HS6⟩, rfl⟩)
            case measure => simp [intOf]; omega
          · have hb : ((j : Int) == (gone : Int)) = false := by rw [beq_eq_false_iff_ne]; omega
            obtain ⟨t1, t2, t3⟩ := restT_least HDS.out (gone := gone) (i := j) (by omega) (by omega) hjg
            have HP := Lib.hid (qPop (some (hg D j)) wi HQ5.out.ls (by omega) (.inr ⟨_, rfl, t1, t2⟩))
            have HT3 := Lib.hid t3
            have HC := Lib.hid (fun w2 (hd : QDone wi p m q5 (k + 2) (fun y => !decide (some (hg D j) = some y) && restT D (hg D gone) j y) w2) => (show w2.cell? ⟨g, off + j, none⟩ = some (.int .i64 (hg D j)) ∧ ∃ q, DrAt B p m q (k + 2) (restT D (hg D gone) (j + 1)) (.slice (some ⟨g, off, none⟩) k cap) D w w2 by
              obtain ⟨q6, h6⟩ := HQ5.out.step hd
              have hr6 := h6.row
              rw [hDl] at hr6
              obtain ⟨g', off', e', _, hc⟩ := row_cell hr6 hDl.symm hlt2
              cases e'
              exact ⟨hc, q6, h6.congr HT3.out⟩))
            simp only [Option.getD_some, Option.isSome_some] at HP
            generalize hg D j = y at HP HC
            clear hjg t1 t2 t3 HT3
            go_wp2_with fail
            refine HP.out.mono ?_
            rintro e w5 ⟨rfl, hd5⟩
            obtain ⟨c5, hs5⟩ := HC.out w5 hd5
            have HS6 := Lib.hid hs5
            clear hd5 hs5
            go_wp2
            go_roundw
            case rel => first | exact ⟨j + 1, by go_num, by omega, HS6⟩ | ((repeat apply Exists.intro); exact ⟨⟨j + 1, by go_num, by omega, HS6⟩, rfl⟩)
            case measure => simp [intOf]; omega
        · obtain rfl : j = k := by omega
          have HP := Lib.hid (qPop none wi HQ5.out.ls (by omega) (.inl ⟨rfl, fun y => by unfold restT; rw [List.drop_of_length_le (by omega)]; simp⟩))
          simp only [Option.getD_none, Option.isSome_none] at HP
          clear hlt2
          go_wp2_with fail
          refine HP.out.mono ?_
          rintro e w5 ⟨rfl, hd5⟩
          have HBF : Hid (Below B w w5) := (show Below B w w5 by obtain ⟨q6, h6⟩ := HQ5.out.step hd5; exact h6.bel)
          clear hd5
          go_wp2
          go_ret
          exact ⟨rfl, by rw [← HBE.out]; exact HBF.out⟩
theorem leastDrops.walk (a0 a1 : Int) (w : World) (w0 : (Lit.int .i64 a0).wf = true) (w1 : (Lit.int .i64 a1).wf = true) :
    Calls Try.prog 12 #[.int .i64 a0, .int .i64 a1] w fun e w' => e = .returned (.bool true) ∧ Below w.heap.size w w' := by
  by_cases h : a0 < 1 ∨ 100 < a0 ∨ a1 < 0 ∨ a0 ≤ a1
  · exact leastDrops.out a0 a1 w h
  · obtain ⟨n, rfl⟩ := Int.eq_ofNat_of_zero_le (show 0 ≤ a0 by omega)
    obtain ⟨g, rfl⟩ := Int.eq_ofNat_of_zero_le (show 0 ≤ a1 by omega)
    exact leastDrops.inside n g w (by omega) (by omega) (by omega)
end Go.Proofs.Ytogifanooleppaa

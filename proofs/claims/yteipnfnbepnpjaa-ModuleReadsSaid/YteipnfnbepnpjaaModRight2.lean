/- module's ended, Right, of any module. -/
import Derived.Test.YteipnfnbepnpjaaModRight
import Derived.Laws.Strings
namespace Go.Proofs.Yteipnfnbepnpjaa
open Go.RowKit Go.Maps
set_option linter.unusedVariables false

/-- may a class's End be? -/
def ModX.endB (m : ModX) (e : Int) : Bool := decide (e = -1) || ((decide (0 ≤ e) && decide (e ≤ (m.n2 : Int) - 1)) && decide (m.p e.toNat = 1))
def ModX.eOk (m : ModX) (i : Nat) : Bool := m.endB (m.en i)
/-- is a constant as it may be? -/
def ModX.tOk (m : ModX) (i : Nat) : Bool := if m.b i = true then decide (m.z i = 0) else decide ((m.s i).size = 0)
/-- why a module can't be -/
def ModX.rightE (m : ModX) : Nat := if m.sizedB = false then 9 else if m.n2 = 0 then 12 else if allN m.eOk m.n3 = false then 12 else if allN m.tOk m.n1 = false then 1 else 0
section
variable {m : ModX}
theorem right_9 (h : m.sizedB = false) : m.rightE = 9 := by unfold ModX.rightE; rw [if_pos h]
theorem right_12 (h : m.sizedB = true) (h2 : m.n2 = 0) : m.rightE = 12 := by unfold ModX.rightE; rw [if_neg (by rw [h]; simp), if_pos h2]
theorem right_12b (h : m.sizedB = true) (h2 : ¬ m.n2 = 0) (h3 : allN m.eOk m.n3 = false) : m.rightE = 12 := by unfold ModX.rightE; rw [if_neg (by rw [h]; simp), if_neg h2, if_pos h3]
theorem right_1 (h : m.sizedB = true) (h2 : ¬ m.n2 = 0) (h3 : allN m.eOk m.n3 = true) (h4 : allN m.tOk m.n1 = false) : m.rightE = 1 := by unfold ModX.rightE; rw [if_neg (by rw [h]; simp), if_neg h2, if_neg (by rw [h3]; simp), if_pos h4]
theorem right_0 (h : m.sizedB = true) (h2 : ¬ m.n2 = 0) (h3 : allN m.eOk m.n3 = true) (h4 : allN m.tOk m.n1 = true) : m.rightE = 0 := by unfold ModX.rightE; rw [if_neg (by rw [h]; simp), if_neg h2, if_neg (by rw [h3]; simp), if_neg (by rw [h4]; simp)]
theorem allN_no {f : Nat → Bool} {n k : Nat} (hk : k < n) (h : f k = false) : allN f n = false := by
  cases hb : allN f n with
  | false => rfl
  | true => have := (allN_iff f n).1 hb k hk; rw [h] at this; cases this
theorem allN_step {f : Nat → Bool} {k : Nat} (h1 : allN f k = true) (h2 : f k = true) : allN f (k + 1) = true := by
  show (allN f k && f k) = true; rw [h1, h2]; rfl
end
section
variable {w w' : World} {m : ModX} {a1 a2 a3 : Option Addr}
set_option maxRecDepth 100000 in
set_option maxHeartbeats 4000000 in
theorem ended_any (fi en : Int) (w : World) (f : ModS w m a1 a2 a3) :
    Calls Try.prog 44 #[modXV m a1 a2 a3, .agg #[.int .i64 fi, .int .i64 en]] w fun e w' => e = .returned (.bool (m.endB en)) ∧ Below w.heap.size w w' := by
  obtain ⟨w1, hw1⟩ : ∃ w1, w1 = (w.alloc (.cells #[.int .i64 m.G, .slice a1 m.n1 m.c1, .slice a2 m.n2 m.c2, .slice a3 m.n3 m.c3] 47)).alloc (.cells #[.int .i64 fi, .int .i64 en] 76) := ⟨_, rfl⟩
  have HB1 : Hid (Below w.heap.size w w1) := (show Below w.heap.size w w1 by rw [hw1]; exact two_alloc _ _ _)
  have HW1 := Lib.hid hw1
  have HW := Lib.hid (fun n lo hi w => within_any n lo hi w)
  have hle := f.f.le
  have hmx := f.f.max
  unfold modXV
  by_cases h1 : en = -1
  · subst h1
    have HE : Hid (m.endB (-1) = true) := (show m.endB (-1) = true by unfold ModX.endB; simp)
    rw [HE.out]
    clear f hw1
    go_enter Try.func44, Try.ntmps44
    go_wp2
    go_ret
    exact ⟨rfl, two_alloc _ _ _⟩
  · have b1 : (en == -1) = false := by rw [beq_eq_false_iff_ne]; exact h1
    by_cases hP : 0 ≤ en ∧ en ≤ (m.n2 : Int) - 1
    · obtain ⟨i, rfl⟩ := Int.eq_ofNat_of_zero_le hP.1
      have hlt : i < m.n2 := by omega
      have HP : Hid (∀ W, Calls Try.prog 60 #[.int .i64 (i : Nat), .int .i64 0, .int .i64 ((m.n2 : Int) - 1)] W fun e w' => e = .returned (.bool true) ∧ W = w') := (show ∀ W, _ from fun W => by
        have := HW.out (i : Nat) 0 ((m.n2 : Int) - 1) W
        rw [show (decide ((0 : Int) ≤ (i : Nat)) && decide (((i : Nat) : Int) ≤ (m.n2 : Int) - 1)) = true by rw [Bool.and_eq_true, decide_eq_true_iff, decide_eq_true_iff]; exact hP] at this
        exact this)
      have HE : Hid (m.endB (i : Nat) = decide (m.p i = 1)) := (show m.endB (i : Nat) = decide (m.p i = 1) by
        unfold ModX.endB
        rw [show decide (((i : Nat) : Int) = -1) = false by rw [decide_eq_false_iff_not]; omega, decide_eq_true hP.1, decide_eq_true hP.2, Int.toNat_natCast]
        simp)
      rw [HE.out]
      obtain ⟨g, off, rfl, hgl, e0, e1, e2⟩ := rows3 (f.below HB1.out).f hlt
      replace e0 : w1.cell? ⟨g, off + i * 3, none⟩ = some (.int .i64 (m.p i)) := e0
      rw [hw1] at e0
      have hi0 : (0 : Int) ≤ (i : Int) := by omega
      have hi1 : (i : Int) < (m.n2 : Int) := by omega
      have hi2 : ¬ (i : Int) = -1 := by omega
      generalize m.p i = pp at e0
      clear f hw1 h1 hP
      go_enter Try.func44, Try.ntmps44
      go_wp2_with fail
      refine (HP.out _).mono ?_
      rintro en2 w5 ⟨rfl, rfl⟩
      go_wp2
      go_ret
      exact ⟨ret_bool2 (by rw [Bool.eq_iff_iff]; simp), two_alloc _ _ _⟩
    · have HP : Hid (∀ W, Calls Try.prog 60 #[.int .i64 en, .int .i64 0, .int .i64 ((m.n2 : Int) - 1)] W fun e w' => e = .returned (.bool false) ∧ W = w') := (show ∀ W, _ from fun W => by
        have := HW.out en 0 ((m.n2 : Int) - 1) W
        rw [show (decide ((0 : Int) ≤ en) && decide (en ≤ (m.n2 : Int) - 1)) = false by
          cases hb : (decide ((0 : Int) ≤ en) && decide (en ≤ (m.n2 : Int) - 1)) with
          | false => rfl
          | true => rw [Bool.and_eq_true, decide_eq_true_iff, decide_eq_true_iff] at hb; exact absurd hb hP] at this
        exact this)
      have HE : Hid (m.endB en = false) := (show m.endB en = false by
        unfold ModX.endB
        rw [decide_eq_false h1]
        cases hb : (decide ((0 : Int) ≤ en) && decide (en ≤ (m.n2 : Int) - 1)) with
        | false => rfl
        | true => rw [Bool.and_eq_true, decide_eq_true_iff, decide_eq_true_iff] at hb; exact absurd hb hP)
      rw [HE.out]
      clear f hw1 hP
      go_enter Try.func44, Try.ntmps44
      go_wp2_with fail
      refine (HP.out _).mono ?_
      rintro en2 w5 ⟨rfl, rfl⟩
      go_wp2
      go_ret
      exact ⟨rfl, two_alloc _ _ _⟩
set_option maxRecDepth 100000 in
set_option maxHeartbeats 8000000 in
theorem right_any (w : World) (f : ModS w m a1 a2 a3) :
    Calls Try.prog 30 #[modXV m a1 a2 a3] w fun e w' => e = .returned (.int .i64 (m.rightE : Nat)) ∧ Below w.heap.size w w' := by
  have HM := Lib.hid (MxAt.made f 47)
  obtain ⟨gm, hgm⟩ : ∃ gm, gm = w.heap.size := ⟨_, rfl⟩
  obtain ⟨w1, hw1⟩ : ∃ w1, w1 = w.alloc (.cells #[.int .i64 m.G, .slice a1 m.n1 m.c1, .slice a2 m.n2 m.c2, .slice a3 m.n3 m.c3] 47) := ⟨_, rfl⟩
  have HW1 := Lib.hid hw1
  have HGM := Lib.hid hgm
  rw [← hgm, ← hw1] at HM
  have HS := Lib.hid (sized_any w1 HM.out.f)
  have HE := Lib.hid (fun (fi en : Int) (W : World) (f : ModS W m a1 a2 a3) => ended_any fi en W f)
  have hx1 := f.c.max
  have hx2 := f.f.max
  have hx3 := f.k.max
  have hl1 := f.c.le
  have hl2 := f.f.le
  have hl3 := f.k.le
  unfold modXV at HS HE ⊢
  obtain ⟨E, hE⟩ : ∃ E, E = m.rightE := ⟨_, rfl⟩
  have HEE := Lib.hid hE
  rw [← hE]
  clear f hgm hw1 hE
  cases hsb : m.sizedB with
  | false =>
    have HV : Hid (E = 9) := (show E = 9 by rw [HEE.out, right_9 hsb])
    rw [hsb] at HS
    rw [HV.out]
    clear hsb
    go_enter Try.func30, Try.ntmps30
    go_wp2_with fail
    rw [← HW1.out, ← HGM.out]
    refine HS.out.mono ?_
    rintro en w2 ⟨rfl, hb2⟩
    have HBL := Lib.hid (HM.out.below hb2).bel
    clear hb2
    go_wp2
    go_ret
    exact ⟨rfl, HBL.out⟩
  | true =>
    rw [hsb] at HS
    have HSB := Lib.hid hsb
    clear hsb
    by_cases h20 : m.n2 = 0
    · have HV : Hid (E = 12) := (show E = 12 by rw [HEE.out, right_12 HSB.out h20])
      have hz20 : (((m.n2 : Nat) : Int) == 0) = true := by rw [beq_iff_eq]; omega
      rw [HV.out]
      clear h20
      go_enter Try.func30, Try.ntmps30
      go_wp2_with fail
      rw [← HW1.out, ← HGM.out]
      refine HS.out.mono ?_
      rintro en w2 ⟨rfl, hb2⟩
      obtain ⟨ff, m0, m1, m2, m3, _⟩ := HM.out.below hb2
      have HBL := Lib.hid (HM.out.below hb2).bel
      clear hb2
      go_wp2
      go_ret
      exact ⟨rfl, HBL.out⟩
    · have hz2 : (((m.n2 : Nat) : Int) == 0) = false := by rw [beq_eq_false_iff_ne]; omega
      have H20 := Lib.hid h20
      clear h20
      go_enter Try.func30, Try.ntmps30
      go_wp2_with fail
      rw [← HW1.out, ← HGM.out]
      refine HS.out.mono ?_
      rintro en w2 ⟨rfl, hb2⟩
      have HM2 := Lib.hid (HM.out.below hb2)
      obtain ⟨ff, m0, m1, m2, m3, _⟩ := HM2.out
      clear hb2
      go_wp2_with fail
      go_loopw [17] (fun i wr => ∃ k : Nat, i = .int .i64 (k : Nat) ∧ k ≤ m.n3 ∧ Hid (allN m.eOk k = true ∧ MxAt w gm m a1 a2 a3 wr)) (fun i _ => m.n3 - (intOf i).toNat)
      case atStart => exact ⟨0, rfl, Nat.zero_le _, rfl, HM2.out⟩
      case round =>
        obtain ⟨k, rfl, hk, hs⟩ := hrel
        obtain ⟨wo, rfl⟩ : ∃ wo : World, wo = wr := ⟨_, rfl⟩
        obtain ⟨fs, q0, q1, q2, q3, _⟩ := hs.out.2
        by_cases hlt : k < m.n3
        · obtain ⟨g, off, rfl, hgl, e0, e1⟩ := rows2 fs.k hlt
          replace e0 : wo.cell? ⟨g, off + k * 2, none⟩ = some (.int .i64 (m.fi k)) := e0
          replace e1 : wo.cell? ⟨g, off + k * 2 + 1, none⟩ = some (.int .i64 (m.en k)) := e1
          have hi0 : (0 : Int) ≤ (k : Int) := by omega
          have hi1 : (k : Int) < (m.n3 : Int) := by omega
          have hgm : gm < wo.heap.size := World.block_lt_of_cell? wo _ q0
          have HX := Lib.hid (hs.out.2.below ((Below.refl _ _).alloc (Nat.le_refl _) (.cells #[.int .i64 (m.fi k), .int .i64 (m.en k)] 76)))
          have HC := Lib.hid (HE.out (m.fi k) (m.en k) _ HX.out.f)
          have HO := Lib.hid hs.out.1
          cases hb : m.endB (m.en k) with
          | true =>
            rw [hb] at HC
            have HS2 : Hid (allN m.eOk (k + 1) = true) := allN_step HO.out hb
            clear hs hb
            go_wp2_with fail
            refine HC.out.mono ?_
            rintro en w5 ⟨rfl, hb5⟩
            have HX5 := Lib.hid (HX.out.below hb5)
            clear hb5
            go_wp2
            go_roundw
            case rel => first | exact ⟨k + 1, by go_num, by omega, HS2.out, HX5.out⟩ | ((repeat apply Exists.intro); exact ⟨⟨k + 1, by go_num, by omega, HS2.out, HX5.out⟩, rfl⟩)
            case measure => simp [intOf]; omega
          | false =>
            rw [hb] at HC
            have HV : Hid (E = 12) := (show E = 12 by rw [HEE.out, right_12b HSB.out H20.out (allN_no hlt hb)])
            clear hs hb
            go_wp2_with fail
            refine HC.out.mono ?_
            rintro en w5 ⟨rfl, hb5⟩
            have HX5 := Lib.hid (HX.out.below hb5).bel
            clear hb5
            go_wp2
            go_ret
            exact ⟨ret_int2 (by rw [HV.out]; rfl), HX5.out⟩
        · obtain rfl : k = m.n3 := by omega
          have HO := Lib.hid hs.out.1
          have HM3 := Lib.hid hs.out.2
          clear hlt hs
          go_wp2_with fail
          go_loopw [29] (fun i wr => ∃ k : Nat, i = .int .i64 (k : Nat) ∧ k ≤ m.n1 ∧ Hid (allN m.tOk k = true ∧ MxAt w gm m a1 a2 a3 wr)) (fun i _ => m.n1 - (intOf i).toNat)
          case atStart => exact ⟨0, rfl, Nat.zero_le _, rfl, HM3.out⟩
          case round =>
            obtain ⟨k, rfl, hk2, hs⟩ := hrel
            obtain ⟨wp, rfl⟩ : ∃ wp : World, wp = wr := ⟨_, rfl⟩
            obtain ⟨fs2, r0, r1, r2, r3, _⟩ := hs.out.2
            by_cases hlt : k < m.n1
            · obtain ⟨g, off, rfl, hgl, e0, e1, e2⟩ := rows3 fs2.c hlt
              replace e0 : wp.cell? ⟨g, off + k * 3, none⟩ = some (.bool (m.b k)) := e0
              replace e1 : wp.cell? ⟨g, off + k * 3 + 1, none⟩ = some (.int .i64 (m.z k)) := e1
              replace e2 : wp.cell? ⟨g, off + k * 3 + 2, none⟩ = some (.string (m.s k)) := e2
              have hi0 : (0 : Int) ≤ (k : Int) := by omega
              have hi1 : (k : Int) < (m.n1 : Int) := by omega
              have hgm : gm < wp.heap.size := World.block_lt_of_cell? wp _ r0
              have HX := Lib.hid (fun (ob : Obj) => hs.out.2.below ((Below.refl _ _).alloc (Nat.le_refl _) ob))
              have HO2 := Lib.hid hs.out.1
              have HTO : Hid (m.tOk k = if m.b k = true then decide (m.z k = 0) else decide ((m.s k).size = 0)) := rfl
              cases hbk : m.b k with
              | true =>
                rw [hbk] at e0 HTO
                rw [if_pos rfl] at HTO
                by_cases hz : m.z k = 0
                · have HS2 : Hid (allN m.tOk (k + 1) = true) := allN_step HO2.out (by rw [HTO.out]; exact decide_eq_true hz)
                  rw [hz] at e1
                  clear hs hbk hz
                  go_wp2
                  go_roundw
                  case rel => first | exact ⟨k + 1, by go_num, by omega, HS2.out, HX.out _⟩ | ((repeat apply Exists.intro); exact ⟨⟨k + 1, by go_num, by omega, HS2.out, HX.out _⟩, rfl⟩)
                  case measure => simp [intOf]; omega
                · have HV : Hid (E = 1) := (show E = 1 by rw [HEE.out, right_1 HSB.out H20.out HO.out (allN_no hlt (by rw [HTO.out]; exact decide_eq_false hz))])
                  have hbn : (m.z k != 0) = true := by rw [bne_iff_ne]; exact hz
                  clear hs hbk hz
                  go_wp2
                  go_ret
                  exact ⟨ret_int2 (by rw [HV.out]; rfl), (HX.out _).bel⟩
              | false =>
                rw [hbk] at e0 HTO
                rw [if_neg (by simp)] at HTO
                by_cases hz : (m.s k).size = 0
                · have HS2 : Hid (allN m.tOk (k + 1) = true) := allN_step HO2.out (by rw [HTO.out]; exact decide_eq_true hz)
                  have hse : m.s k = ByteArray.empty := ByteArray.ext (Array.eq_empty_of_size_eq_zero hz)
                  rw [hse] at e2
                  clear hs hbk hz hse
                  go_wp2
                  go_roundw
                  case rel => first | exact ⟨k + 1, by go_num, by omega, HS2.out, HX.out _⟩ | ((repeat apply Exists.intro); exact ⟨⟨k + 1, by go_num, by omega, HS2.out, HX.out _⟩, rfl⟩)
                  case measure => simp [intOf]; omega
                · have HV : Hid (E = 1) := (show E = 1 by rw [HEE.out, right_1 HSB.out H20.out HO.out (allN_no hlt (by rw [HTO.out]; exact decide_eq_false hz))])
                  have hbe : (m.s k).toList.isEmpty = false := by
                    rw [ByteArray.toList_eq]
                    cases hl : (m.s k).data.toList with
                    | nil => exact absurd (by show (m.s k).data.size = 0; rw [← Array.length_toList, hl]; rfl) hz
                    | cons a t => rfl
                  clear hs hbk hz
                  go_wp2
                  go_ret
                  exact ⟨ret_int2 (by rw [HV.out]; rfl), (HX.out _).bel⟩
            · obtain rfl : k = m.n1 := by omega
              have HV : Hid (E = 0) := (show E = 0 by rw [HEE.out, right_0 HSB.out H20.out HO.out hs.out.1])
              clear hlt
              go_wp2
              go_ret
              exact ⟨ret_int2 (by rw [HV.out]; rfl), hs.out.2.bel⟩
end
end Go.Proofs.Yteipnfnbepnpjaa

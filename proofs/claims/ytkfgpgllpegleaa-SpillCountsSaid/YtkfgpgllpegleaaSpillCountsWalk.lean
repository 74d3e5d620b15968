/- The walk of the law SpillCounts: it answers true for every input. -/
import Derived.Test.YtkfgpgllpegleaaSpillAlive
import Derived.Test.YtkfgpgllpegleaaSpillDown
import Derived.Test.YtkfgpgllpegleaaOpen
namespace Go.Proofs.Ytkfgpgllpegleaa
open Go.RowKit Go.Maps
set_option linter.unusedVariables false

/-- how the table stands: n is counted of a handle, hd of it in its header -/
structure Stands (X : Int → Nat) (T : Int → Bool) (h : Int) (L n hd : Nat) (st : Bool) : Prop where
  sum : hd + X h = n
  le : hd ≤ 255
  full : 0 < X h → hd = 255
  stick : T h = st
  lim : n ≤ L
  at_ : st = true → n = L
  free : st = false → n < L
theorem Stands.start (h : Int) {L : Nat} (hL : 1 ≤ L) : Stands (fun _ => 0) (fun _ => false) h L 0 0 false :=
  ⟨rfl, by omega, fun q => absurd q (by simp), rfl, by omega, (fun q => by cases q), fun _ => by omega⟩
section
variable {X : Int → Nat} {T : Int → Bool} {h : Int} {L n hd : Nat} {st : Bool}
theorem Stands.up (s : Stands X T h L n hd false) : Stands (upX X h (cutC (hd : Int))) (upT (L : Int) X T h (cutC (hd : Int))) h L (n + 1) (upR (cutC (hd : Int))) (decide (L ≤ n + 1)) := by
  obtain ⟨h1, h2, h3, h4, h5, h6, h7⟩ := s
  have h7 := h7 rfl
  have hc : cutC (hd : Int) = hd := cutC_in h2
  rw [hc]
  have e : upT (L : Int) X T h hd h = decide (L ≤ n + 1) := by
    unfold upT
    by_cases hr : (L : Int) ≤ (hd : Int) + (X h : Nat) + 1
    · rw [if_pos hr, decide_eq_true (by omega)]; simp [stickT]
    · rw [if_neg hr, h4, eq_comm, decide_eq_false_iff_not]; omega
  by_cases hlt : hd < 255
  · have hX : X h = 0 := by
      rcases Nat.eq_zero_or_pos (X h) with q | q
      · exact q
      · have := h3 q; omega
    refine ⟨?_, ?_, fun q => ?_, e, by omega, fun q => ?_, fun q => ?_⟩
    · unfold upR upX; rw [if_pos hlt, if_pos hlt]; omega
    · unfold upR; rw [if_pos hlt]; omega
    · unfold upX at q; rw [if_pos hlt] at q; omega
    · have := of_decide_eq_true q; omega
    · have := of_decide_eq_false q; omega
  · refine ⟨?_, ?_, fun q => ?_, e, by omega, fun q => ?_, fun q => ?_⟩
    · unfold upR upX growX; rw [if_neg hlt, if_neg hlt]; simp; omega
    · unfold upR; rw [if_neg hlt]; omega
    · unfold upR; rw [if_neg hlt]; omega
    · have := of_decide_eq_true q; omega
    · have := of_decide_eq_false q; omega
theorem Stands.down_high (s : Stands X T h L n hd false) {xx : Nat} (hx : X h = xx + 1) : Stands (growX X h xx) T h L (n - 1) hd false := by
  obtain ⟨h1, h2, h3, h4, h5, h6, h7⟩ := s
  have h7 := h7 rfl
  exact ⟨by simp [growX]; omega, h2, fun _ => h3 (by omega), h4, by omega, (fun q => by cases q), fun _ => by omega⟩
theorem Stands.down_low (s : Stands X T h L n hd false) (hx : X h = 0) : Stands X T h L (n - 1) (hd - 1) false := by
  obtain ⟨h1, h2, h3, h4, h5, h6, h7⟩ := s
  have h7 := h7 rfl
  exact ⟨by omega, by omega, fun q => by omega, h4, by omega, (fun q => by cases q), fun _ => by omega⟩
theorem Stands.total (s : Stands X T h L n hd st) {w : World} {p e sb m : Nat} (hs : SpillAt w p e sb m L X T) (hh : (Lit.int .i64 h).wf = true) (hL : L ≤ 2000) :
    Calls Try.prog 16 #[.pointer (some ⟨p, 0, none⟩), .int .i64 h, .int .i64 (hd : Nat)] w fun e w' => e = .returned (.int .i64 (n : Nat)) ∧ ∃ k, w' = w.drewN k := by
  have h1 := s.sum
  have h2 := s.lim
  have := total_any h (hd : Int) w hs hh (by omega)
  rw [cutC_in s.le, s.sum] at this
  exact this
theorem Stands.sticky (s : Stands X T h L n hd st) {w : World} {p e sb m : Nat} (hs : SpillAt w p e sb m L X T) (hh : (Lit.int .i64 h).wf = true) :
    Calls Try.prog 17 #[.pointer (some ⟨p, 0, none⟩), .int .i64 h] w fun e w' => e = .returned (.bool st) ∧ w = w' := by
  have := sticky_any h w hs hh
  rw [s.stick] at this
  exact this
end
theorem spillCounts.out (a0 a1 : Int) (a2 : Option Addr) (len cap : Nat) (w : World) (hd : ¬ (1 ≤ a0 ∧ a0 ≤ 2000 ∧ len ≤ 3000)) (hc : len ≤ 9223372036854775807) :
    Calls Try.prog 6 #[.int .i64 a0, .int .i64 a1, .slice a2 len cap] w fun e w' => e = .returned (.bool true) ∧ Below w.heap.size w w' := by
  go_enter Try.func6, Try.ntmps6
  go_wp2_with (go_at_call 13; refine (alive9 _).mono ?_; rintro e w' ⟨rfl, hb⟩)
  all_goals
    go_ret
    exact ⟨rfl, by assumption⟩

set_option maxRecDepth 100000 in
set_option maxHeartbeats 4000000 in
theorem spillCounts.inside (L : Nat) (h : Int) (a2 : Option Addr) (len cap : Nat) (w : World) (F : Nat → Nat → Value) (hL1 : 1 ≤ L) (hL : L ≤ 2000) (hlen : len ≤ 3000) (hh : (Lit.int .i64 h).wf = true)
    (hR : Rows w a2 len cap 1 F) (z : Nat → Bool) (hz : ∀ i, i < len → F i 0 = .bool (z i)) :
    Calls Try.prog 6 #[.int .i64 (L : Nat), .int .i64 h, .slice a2 len cap] w fun e w' => e = .returned (.bool true) ∧ Below w.heap.size w w' := by
  have d1 : decide ((L : Int) < 1) = false := by rw [decide_eq_false_iff_not]; omega
  have d2 : decide (2000 < (L : Int)) = false := by rw [decide_eq_false_iff_not]; omega
  have d3 : decide (3000 < (len : Int)) = false := by rw [decide_eq_false_iff_not]; omega
  have HH := Lib.hid hh
  have HR := Lib.hid hR
  have HZ := Lib.hid hz
  clear hh hR hz
  obtain ⟨B, hB⟩ : ∃ B, B = w.heap.size := ⟨_, rfl⟩
  have HB := Lib.hid hB
  clear hB
  go_enter Try.func6, Try.ntmps6
  go_wp2_with fail
  refine (alive9 _).mono ?_
  rintro en wa ⟨rfl, hba⟩
  have HBa := Lib.hid hba
  clear hba
  go_wp2_with fail
  refine (spillNew_any (L : Nat) _).mono ?_
  rintro en w1 ⟨p, e, s, rfl, hs, hp, he, hss, hbb⟩
  have el : limC (L : Int) = (L : Int) := by unfold limC; omega
  rw [el] at hs
  clear el
  have heB : B ≤ e := by rw [HB.out]; have := HBa.out.size; omega
  have hsB : B ≤ s := by rw [HB.out]; have := HBa.out.size; omega
  have HS0 := Lib.hid hs
  have HB1 : Hid (Below B w w1) := (show Below B w w1 by rw [HB.out]; exact HBa.out.trans (hbb.mono HBa.out.size))
  clear hs hbb hp he hss
  go_wp2_with fail
  go_loopw [9, 10, 11, 12] (fun hv nv sv i wr => ∃ (k n hd : Nat) (st : Bool), k ≤ len ∧ i = .int .i64 k ∧ hv = .int .i64 hd ∧ nv = .int .i64 n ∧ sv = .bool st ∧ (∃ X T, SpillAt wr p e s (2 * k) L X T ∧ Stands X T h L n hd st) ∧ Below B w wr) (fun _ _ _ i _ => len - (intOf i).toNat)
  case atStart => exact ⟨0, 0, 0, false, Nat.zero_le _, rfl, rfl, rfl, rfl, ⟨_, _, HS0.out, Stands.start h hL1⟩, HB1.out⟩
  case round =>
    obtain ⟨k, n, hd, st, hk, rfl, rfl, rfl, rfl, ⟨X, T, hs, hcn⟩, hbr⟩ := hrel
    have HS := Lib.hid hs
    have HC := Lib.hid hcn
    have HBr := Lib.hid hbr
    have h255 : hd ≤ 255 := hcn.le
    have hnL : n ≤ L := hcn.lim
    clear hs hcn hbr
    by_cases hlt : k < len
    · obtain ⟨g, off, rfl, hg, hc0⟩ := HR.out.cell k 0 hlt (by omega)
      rw [HZ.out k hlt, Nat.mul_one, Nat.add_zero] at hc0
      have c0 : wr.cell? ⟨g, off + k, none⟩ = some (.bool (z k)) := (HBr.out.cell (p := ⟨g, off + k, none⟩) (by rw [HB.out]; exact hg)).trans hc0
      clear hc0
      cases hzk : z k
      · rw [hzk] at c0
        clear hzk
        cases st
        · rcases Nat.eq_zero_or_pos (X h) with hX | hX
          · have C1 := Lib.hid (down_low h hd _ HS.out HH.out HC.out.stick hX)
            rw [cutC_in h255] at C1
            have HC2 := Lib.hid (HC.out.down_low hX)
            have HS2 : Hid (SpillAt wr p e s (2 * (k + 1)) L X T) := (HS.out.mono (by omega))
            have HB2 := HBr
            have h255b : hd - 1 ≤ 255 := by omega
            clear hX
            generalize hd - 1 = hd2 at HC2 C1 h255b
            rcases Nat.eq_zero_or_pos n with rfl | hn
            · rw [show (0 : Nat) - 1 = 0 from rfl] at HC2
              go_wp2_with fail
              refine C1.out.mono ?_
              rintro en w2 ⟨rfl, rfl⟩
              clear C1
              have HT := Lib.hid (HC2.out.total HS2.out HH.out hL)
              have HY := Lib.hid (fun m => HC2.out.sticky (HS2.out.drewN m) HH.out)
              go_wp2_with fail
              refine (HT.out).mono ?_
              rintro en wx ⟨rfl, m, rfl⟩
              go_wp2_with fail
              refine (HY.out m).mono ?_
              rintro en wx ⟨rfl, rfl⟩
              have HS3 := Lib.hid (HS2.out.drewN m)
              have HB3 := Lib.hid (below_drewN HB2.out m)
              go_wp2
              go_roundw
              case rel => first | exact ⟨k + 1, 0, hd2, false, by omega, by go_num, rfl, by go_num, rfl, ⟨_, _, HS3.out, HC2.out⟩, HB3.out⟩ | ((repeat apply Exists.intro); exact ⟨⟨k + 1, 0, hd2, false, by omega, by go_num, rfl, by go_num, rfl, ⟨_, _, HS3.out, HC2.out⟩, HB3.out⟩, rfl⟩)
              case measure => simp [intOf]; omega
            · obtain ⟨n2, rfl⟩ : ∃ n2, n = n2 + 1 := ⟨n - 1, by omega⟩
              rw [Nat.add_sub_cancel] at HC2
              have hn1 : (0 : Int) < (n2 : Int) + 1 := by omega
              go_wp2_with fail
              refine C1.out.mono ?_
              rintro en w2 ⟨rfl, rfl⟩
              clear C1
              have HT := Lib.hid (HC2.out.total HS2.out HH.out hL)
              have HY := Lib.hid (fun m => HC2.out.sticky (HS2.out.drewN m) HH.out)
              go_wp2_with fail
              refine (HT.out).mono ?_
              rintro en wx ⟨rfl, m, rfl⟩
              go_wp2_with fail
              refine (HY.out m).mono ?_
              rintro en wx ⟨rfl, rfl⟩
              have HS3 := Lib.hid (HS2.out.drewN m)
              have HB3 := Lib.hid (below_drewN HB2.out m)
              go_wp2
              go_roundw
              case rel => first | exact ⟨k + 1, n2, hd2, false, by omega, by go_num, rfl, by go_num, rfl, ⟨_, _, HS3.out, HC2.out⟩, HB3.out⟩ | ((repeat apply Exists.intro); exact ⟨⟨k + 1, n2, hd2, false, by omega, by go_num, rfl, by go_num, rfl, ⟨_, _, HS3.out, HC2.out⟩, HB3.out⟩, rfl⟩)
              case measure => simp [intOf]; omega
          · obtain ⟨xx, hx⟩ : ∃ xx, X h = xx + 1 := ⟨X h - 1, by omega⟩
            have hn0 := HC.out.sum
            obtain ⟨n2, rfl⟩ : ∃ n2, n = n2 + 1 := ⟨n - 1, by omega⟩
            have C1 := Lib.hid (down_high h hd _ xx HS.out HH.out HC.out.stick hx (by omega) (by omega))
            rw [cutC_in h255] at C1
            have HC2 := Lib.hid (HC.out.down_high hx)
            rw [Nat.add_sub_cancel] at HC2
            clear hX hx hn0
            have hn1 : (0 : Int) < (n2 : Int) + 1 := by omega
            go_wp2_with fail
            refine C1.out.mono ?_
            rintro en w2 ⟨rfl, hs2, hk2⟩
            have HS2 : Hid (SpillAt w2 p e s (2 * (k + 1)) L _ _) := hs2
            have HB2 := Lib.hid (below_two HBr.out hk2 (by rw [HB.out]; exact HBr.out.size) heB hsB)
            clear hs2 hk2 C1
            have HT := Lib.hid (HC2.out.total HS2.out HH.out hL)
            have HY := Lib.hid (fun m => HC2.out.sticky (HS2.out.drewN m) HH.out)
            go_wp2_with fail
            refine (HT.out).mono ?_
            rintro en wx ⟨rfl, m, rfl⟩
            go_wp2_with fail
            refine (HY.out m).mono ?_
            rintro en wx ⟨rfl, rfl⟩
            have HS3 := Lib.hid (HS2.out.drewN m)
            have HB3 := Lib.hid (below_drewN HB2.out m)
            go_wp2
            go_roundw
            case rel => first | exact ⟨k + 1, n2, hd, false, by omega, by go_num, rfl, by go_num, rfl, ⟨_, _, HS3.out, HC2.out⟩, HB3.out⟩ | ((repeat apply Exists.intro); exact ⟨⟨k + 1, n2, hd, false, by omega, by go_num, rfl, by go_num, rfl, ⟨_, _, HS3.out, HC2.out⟩, HB3.out⟩, rfl⟩)
            case measure => simp [intOf]; omega
        · have C1 := Lib.hid (down_stuck h hd _ HS.out HH.out HC.out.stick)
          rw [cutC_in h255] at C1
          have HC2 := HC
          have HS2 : Hid (SpillAt wr p e s (2 * (k + 1)) L X T) := (HS.out.mono (by omega))
          have HB2 := HBr
          go_wp2_with fail
          refine C1.out.mono ?_
          rintro en w2 ⟨rfl, rfl⟩
          clear C1
          have HT := Lib.hid (HC2.out.total HS2.out HH.out hL)
          have HY := Lib.hid (fun m => HC2.out.sticky (HS2.out.drewN m) HH.out)
          go_wp2_with fail
          refine (HT.out).mono ?_
          rintro en wx ⟨rfl, m, rfl⟩
          go_wp2_with fail
          refine (HY.out m).mono ?_
          rintro en wx ⟨rfl, rfl⟩
          have HS3 := Lib.hid (HS2.out.drewN m)
          have HB3 := Lib.hid (below_drewN HB2.out m)
          go_wp2
          go_roundw
          case rel => first | exact ⟨k + 1, n, hd, true, by omega, by go_num, rfl, by go_num, rfl, ⟨_, _, HS3.out, HC2.out⟩, HB3.out⟩ | ((repeat apply Exists.intro); exact ⟨⟨k + 1, n, hd, true, by omega, by go_num, rfl, by go_num, rfl, ⟨_, _, HS3.out, HC2.out⟩, HB3.out⟩, rfl⟩)
          case measure => simp [intOf]; omega
      · rw [hzk] at c0
        clear hzk
        cases st
        · by_cases hr : L ≤ n + 1
          · have HC0 := Lib.hid (HC.out.up)
            rw [show decide (L ≤ n + 1) = true from by rw [decide_eq_true_eq]; omega] at HC0
            have C1 := Lib.hid (up_any h hd _ HS.out HH.out HC.out.stick (by have := HC.out.sum; omega) (by omega))
            generalize upR (cutC (hd : Int)) = hd2 at HC0 C1
            have h255b : hd2 ≤ 255 := HC0.out.le
            have hd0 : decide ((L : Int) ≤ (n : Int) + 1) = true := by rw [decide_eq_true_eq]; omega
            go_wp2_with fail
            refine C1.out.mono ?_
            rintro en w2 ⟨rfl, hs2, hk2⟩
            have HS2 : Hid (SpillAt w2 p e s (2 * (k + 1)) L _ _) := hs2
            have HB2 := Lib.hid (below_two HBr.out hk2 (by rw [HB.out]; exact HBr.out.size) heB hsB)
            have HC2 := HC0
            clear hs2 hk2 C1 HC0
            have HT := Lib.hid (HC2.out.total HS2.out HH.out hL)
            have HY := Lib.hid (fun m => HC2.out.sticky (HS2.out.drewN m) HH.out)
            go_wp2_with fail
            refine (HT.out).mono ?_
            rintro en wx ⟨rfl, m, rfl⟩
            go_wp2_with fail
            refine (HY.out m).mono ?_
            rintro en wx ⟨rfl, rfl⟩
            have HS3 := Lib.hid (HS2.out.drewN m)
            have HB3 := Lib.hid (below_drewN HB2.out m)
            go_wp2
            go_roundw
            case rel => first | exact ⟨k + 1, n + 1, hd2, true, by omega, by go_num, rfl, by go_num, rfl, ⟨_, _, HS3.out, HC2.out⟩, HB3.out⟩ | ((repeat apply Exists.intro); exact ⟨⟨k + 1, n + 1, hd2, true, by omega, by go_num, rfl, by go_num, rfl, ⟨_, _, HS3.out, HC2.out⟩, HB3.out⟩, rfl⟩)
            case measure => simp [intOf]; omega
          · have HC0 := Lib.hid (HC.out.up)
            rw [show decide (L ≤ n + 1) = false from by rw [decide_eq_false_iff_not]; omega] at HC0
            have C1 := Lib.hid (up_any h hd _ HS.out HH.out HC.out.stick (by have := HC.out.sum; omega) (by omega))
            generalize upR (cutC (hd : Int)) = hd2 at HC0 C1
            have h255b : hd2 ≤ 255 := HC0.out.le
            have hd0 : decide ((L : Int) ≤ (n : Int) + 1) = false := by rw [decide_eq_false_iff_not]; omega
            go_wp2_with fail
            refine C1.out.mono ?_
            rintro en w2 ⟨rfl, hs2, hk2⟩
            have HS2 : Hid (SpillAt w2 p e s (2 * (k + 1)) L _ _) := hs2
            have HB2 := Lib.hid (below_two HBr.out hk2 (by rw [HB.out]; exact HBr.out.size) heB hsB)
            have HC2 := HC0
            clear hs2 hk2 C1 HC0
            have HT := Lib.hid (HC2.out.total HS2.out HH.out hL)
            have HY := Lib.hid (fun m => HC2.out.sticky (HS2.out.drewN m) HH.out)
            go_wp2_with fail
            refine (HT.out).mono ?_
            rintro en wx ⟨rfl, m, rfl⟩
            go_wp2_with fail
            refine (HY.out m).mono ?_
            rintro en wx ⟨rfl, rfl⟩
            have HS3 := Lib.hid (HS2.out.drewN m)
            have HB3 := Lib.hid (below_drewN HB2.out m)
            go_wp2
            go_roundw
            case rel => first | exact ⟨k + 1, n + 1, hd2, false, by omega, by go_num, rfl, by go_num, rfl, ⟨_, _, HS3.out, HC2.out⟩, HB3.out⟩ | ((repeat apply Exists.intro); exact ⟨⟨k + 1, n + 1, hd2, false, by omega, by go_num, rfl, by go_num, rfl, ⟨_, _, HS3.out, HC2.out⟩, HB3.out⟩, rfl⟩)
            case measure => simp [intOf]; omega
        · have C1 := Lib.hid (up_stuck h hd _ HS.out HH.out HC.out.stick)
          rw [cutC_in h255] at C1
          have HC2 := HC
          have HS2 : Hid (SpillAt wr p e s (2 * (k + 1)) L X T) := (HS.out.mono (by omega))
          have HB2 := HBr
          go_wp2_with fail
          refine C1.out.mono ?_
          rintro en w2 ⟨rfl, rfl⟩
          clear C1
          have HT := Lib.hid (HC2.out.total HS2.out HH.out hL)
          have HY := Lib.hid (fun m => HC2.out.sticky (HS2.out.drewN m) HH.out)
          go_wp2_with fail
          refine (HT.out).mono ?_
          rintro en wx ⟨rfl, m, rfl⟩
          go_wp2_with fail
          refine (HY.out m).mono ?_
          rintro en wx ⟨rfl, rfl⟩
          have HS3 := Lib.hid (HS2.out.drewN m)
          have HB3 := Lib.hid (below_drewN HB2.out m)
          go_wp2
          go_roundw
          case rel => first | exact ⟨k + 1, n, hd, true, by omega, by go_num, rfl, by go_num, rfl, ⟨_, _, HS3.out, HC2.out⟩, HB3.out⟩ | ((repeat apply Exists.intro); exact ⟨⟨k + 1, n, hd, true, by omega, by go_num, rfl, by go_num, rfl, ⟨_, _, HS3.out, HC2.out⟩, HB3.out⟩, rfl⟩)
          case measure => simp [intOf]; omega
    · have HF := Lib.hid (forget_any h _ HS.out HH.out)
      go_wp2_with fail
      refine HF.out.mono ?_
      rintro en w2 ⟨rfl, hs2, hk2⟩
      have C1 := Lib.hid (sticky_any h _ hs2 HH.out)
      have C2 := Lib.hid (total_any h 0 _ hs2 HH.out (by simp [growX]))
      rw [show freeT T h h = false by simp [freeT]] at C1
      rw [show ((cutC 0 + growX X h 0 h : Nat) : Int) = 0 by rw [show growX X h 0 h = 0 by simp [growX]]; decide] at C2
      have HB2 := Lib.hid (below_two HBr.out hk2 (by rw [HB.out]; exact HBr.out.size) heB hsB)
      clear hs2 hk2
      go_wp2_with fail
      refine C1.out.mono ?_
      rintro en wx ⟨rfl, rfl⟩
      go_wp2_with fail
      refine C2.out.mono ?_
      rintro en wx ⟨rfl, m, rfl⟩
      go_wp2
      go_ret
      exact ⟨rfl, by rw [← HB.out]; exact below_drewN HB2.out m⟩
/-- what is told of the argument 2 -/
def spillCounts.arg2 (w : World) (a : Option Addr) (len cap : Nat) : Prop := ∃ F : Nat → Nat → Value, Rows w a len cap 1 F ∧ ∀ i, i < len → (∃ b : Bool, (F i) 0 = .bool b)
theorem spillCounts.walk (a0 : Int) (a1 : Int) (a2 : Option Addr) (len2 cap2 : Nat) (w : World) (w0 : (Lit.int .i64 a0).wf = true) (w1 : (Lit.int .i64 a1).wf = true) (w2 : spillCounts.arg2 w a2 len2 cap2) :
    Calls Try.prog 6 #[.int .i64 a0, .int .i64 a1, .slice a2 len2 cap2] w fun e w' => e = .returned (.bool true) ∧ Below w.heap.size w w' := by
  obtain ⟨F, hR, hF⟩ := w2
  obtain ⟨z, hz⟩ := pick hF
  by_cases hd : 1 ≤ a0 ∧ a0 ≤ 2000 ∧ len2 ≤ 3000
  · obtain ⟨L, rfl⟩ : ∃ m : Nat, a0 = m := ⟨a0.toNat, by omega⟩
    exact spillCounts.inside L a1 a2 len2 cap2 w F (by omega) (by omega) hd.2.2 w1 hR z hz
  · exact spillCounts.out a0 a1 a2 len2 cap2 w hd (Nat.le_trans hR.le hR.max)
end Go.Proofs.Ytkfgpgllpegleaa

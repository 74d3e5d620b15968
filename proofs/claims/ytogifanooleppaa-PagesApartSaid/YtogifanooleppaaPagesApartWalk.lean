/- The walk of the law PagesApart: it answers true for every input. -/
import Derived.Test.YtogifanooleppaaPagesApartMath
namespace Go.Proofs.Ytogifanooleppaa
open Go.RowKit Go.Maps
set_option linter.unusedVariables false

theorem intInfo : (Try.prog.info? 3).map (fun i => (i.zero, i.size, i.bytes)) = some (some (.int .i64 0), 1, 8) := by kernel_rfl
/-- where the law stands -/
structure ApAt (B n tp ts tg tm go c : Nat) (T : Nat → Option RunT) (z : Nat → Int) (w0 wr : World) : Prop where
  tab : PagesAt wr tp ts tg tm n c T
  own : OwnAt wr go n z
  same : ∀ i, i < n → (z i = 0 ↔ T i = none)
  bel : Below B w0 wr
  ne : go ≠ tp ∧ go ≠ ts ∧ go ≠ tg ∧ go ≠ tm
section
variable {B n tp ts tg tm go c : Nat} {T T' : Nat → Option RunT} {z z' : Nat → Int} {w0 wr w1 : World}
theorem ApAt.bel1 (h : ApAt B n tp ts tg tm go c T z w0 wr) (hb : Below wr.heap.size wr w1) (hB : B ≤ wr.heap.size) : ApAt B n tp ts tg tm go c T z w0 w1 :=
  ⟨h.tab.below hb, h.own.below hb, h.same, h.bel.trans (hb.mono hB), h.ne⟩
end
/-- where the law stands while it writes a run down -/
structure ApIn (B n tp ts tg tm go c : Nat) (T : Nat → Option RunT) (z : Nat → Int) (w0 wr : World) : Prop where
  tab : PagesAt wr tp ts tg tm n c T
  own : OwnAt wr go n z
  bel : Below B w0 wr
theorem ApIn.step {B n tp ts tg tm go c q : Nat} {T : Nat → Option RunT} {z : Nat → Int} {w0 wr w1 : World} (h : ApIn B n tp ts tg tm go c T z w0 wr) (ne : go ≠ tp ∧ go ≠ ts ∧ go ≠ tg ∧ go ≠ tm) (hB : B ≤ wr.heap.size) (hgo : B ≤ go) (hb : Below wr.heap.size wr w1) (u : Int) :
    ApIn B n tp ts tg tm go c T (fun i => if i = q then u else z i) w0 (w1.setCell ⟨go, q, none⟩ (.int .i64 u)) := by
  refine ⟨(h.tab.below hb).keeps ((Keeps.refl [go] _).setCell (.inl (by simp)) _) ?_ ?_ ?_ ?_, (h.own.below hb).set q u, (h.bel.trans (hb.mono hB)).setCell (p := ⟨go, q, none⟩) hgo _⟩
  all_goals simp; omega
/-- a run is being written down -/
def fillZ (z : Nat → Int) (r j : Nat) (u : Int) : Nat → Int := fun i => if r ≤ i ∧ i < r + j then u else z i
theorem fillZ_zero (z : Nat → Int) (r : Nat) (u : Int) : fillZ z r 0 u = z := by
  funext i
  unfold fillZ
  rw [if_neg (by omega)]
theorem fillZ_succ (z : Nat → Int) (r j : Nat) (u : Int) : (fun i => if i = r + j then u else fillZ z r j u i) = fillZ z r (j + 1) u := by
  funext i
  unfold fillZ
  by_cases h : i = r + j
  · rw [if_pos h, if_pos (by omega)]
  · rw [if_neg h]
    by_cases h1 : r ≤ i ∧ i < r + j
    · rw [if_pos h1, if_pos (by omega)]
    · rw [if_neg h1, if_neg (by omega)]
theorem pagesApart.out (a0 : Int) (a1 : Option Addr) (len1 cap1 : Nat) (w : World) (h : ¬ (1 ≤ a0 ∧ a0 ≤ 200 ∧ len1 ≤ 60)) (hl : len1 ≤ 9223372036854775807) :
    Calls Try.prog 6 #[.int .i64 a0, .slice a1 len1 cap1] w fun e w' => e = .returned (.bool true) ∧ Below w.heap.size w w' := by
  rcases (by omega : a0 < 1 ∨ (1 ≤ a0 ∧ 200 < a0) ∨ (1 ≤ a0 ∧ a0 ≤ 200 ∧ 60 < len1)) with h | h | h
  all_goals
    go_enter Try.func6, Try.ntmps6
    go_wp2_with (go_at_call 24; refine (alive4 _).mono ?_; rintro e w1 ⟨rfl, hb⟩)
    go_ret
    exact ⟨rfl, by assumption⟩
set_option maxRecDepth 100000 in
set_option maxHeartbeats 4000000 in
theorem pagesApart.inside (n : Nat) (a1 : Option Addr) (len1 cap1 : Nat) (zl : Nat → Int) (w : World) (hn1 : 1 ≤ n) (hn2 : n ≤ 200) (hlen : len1 ≤ 60) (hI : Ints .i64 w a1 len1 cap1 zl) :
    Calls Try.prog 6 #[.int .i64 (n : Nat), .slice a1 len1 cap1] w fun e w' => e = .returned (.bool true) ∧ Below w.heap.size w w' := by
  have d1 : decide ((n : Int) < 1) = false := by rw [decide_eq_false_iff_not]; omega
  have d2 : decide ((200 : Int) < (n : Int)) = false := by rw [decide_eq_false_iff_not]; omega
  have d3 : decide ((60 : Int) < (len1 : Int)) = false := by rw [decide_eq_false_iff_not]; omega
  have HI := Lib.hid hI
  have hcap := hI.le
  have hmax := hI.max
  have HGN := Lib.hid (fun w => pnew_any (n : Int) w)
  rw [show pagesN (n : Int) = n by unfold pagesN; omega] at HGN
  obtain ⟨i0, hi, hz0, hz1, hz2⟩ := info_parts intInfo
  have hmk : ∀ W : World, (Instr.makeSlice 23 (.int .i64 (n : Nat)) (.int .i64 (n : Nat))).run Try.prog W = .ok (.slice (some ⟨W.heap.size, 0, none⟩) n n) (W.alloc (.cells (madeCells #[Value.int .i64 0] n) 3)) := by
    intro W
    have := makes_len (P := Try.prog) 23 3 i0 (.int .i64 0) Try.underlying23 hi hz0 .i64 .i64 n n (Nat.le_refl _) (by rw [hz2]; omega) (by omega) W
    rw [hz1, Nat.mul_one] at this
    exact this
  obtain ⟨B, hB⟩ : ∃ B, B = w.heap.size := ⟨_, rfl⟩
  have HBE := Lib.hid hB
  clear hB hI hi hz0 hz1 hz2
  go_enter Try.func6, Try.ntmps6
  go_wp2_with fail
  refine (alive4 _).mono ?_
  rintro e wa ⟨rfl, hba⟩
  have HBa := Lib.hid hba
  clear hba
  go_wp2_with fail
  refine (HGN.out _).mono ?_
  rintro en w1 ⟨tp, ts, tg, tm, rfl, hp, hsz, hb⟩
  have HB1 : Hid (Below B w w1) := (show Below B w w1 by rw [HBE.out]; exact HBa.out.trans (hb.mono HBa.out.size))
  have hgB : B ≤ tg := by rw [HBE.out]; have := HBa.out.size; omega
  have hmB : B ≤ tm := by rw [HBE.out]; have := HBa.out.size; omega
  have hlt1 := hp.lt
  have HB1s : B ≤ w1.heap.size := by rw [HBE.out]; exact HB1.out.size
  have hbA : Below w1.heap.size w1 (w1.alloc (.cells (madeCells #[Value.int .i64 0] n) 3)) := (Below.refl _ _).alloc (Nat.le_refl _) _
  have HA0 : Hid (ApAt B n tp ts tg tm w1.heap.size 0 (fun _ => none) (fun _ => 0) w (w1.alloc (.cells (madeCells #[Value.int .i64 0] n) 3))) := (show ApAt B n tp ts tg tm w1.heap.size 0 (fun _ => none) (fun _ => 0) w _ from
    ⟨hp.below hbA, OwnAt.made w1 n _, fun i _ => ⟨fun _ => rfl, fun _ => rfl⟩, HB1.out.trans (hbA.mono HB1s), by omega⟩)
  have HF0 : Hid (((freeT n (fun _ => none) : Nat) : Int) = (n : Int) - 1) := (show ((freeT n (fun _ => none) : Nat) : Int) = (n : Int) - 1 by
    have := upT_free (n := n) (i := 1) (Nat.le_refl _) hn1
    rw [upT_one] at this
    omega)
  have hgoB : B ≤ w1.heap.size := HB1s
  obtain ⟨go, hgo⟩ : ∃ go, go = w1.heap.size := ⟨_, rfl⟩
  rw [← hgo] at HA0 hgoB
  have HGO := Lib.hid hgo
  clear hb hp hsz HGN hlt1 hbA HB1s hgo
  go_wp2_with fail
  rw [← HGO.out]
  go_loopw [8, 9] (fun fv iv wr => ∃ (k c : Nat) (T : Nat → Option RunT) (z : Nat → Int), iv = .int .i64 (k : Nat) ∧ k ≤ len1 ∧ c ≤ 8 * k ∧ fv = .int .i64 (freeT n T : Nat) ∧ Hid (ApAt B n tp ts tg tm go c T z w wr)) (fun _ iv _ => len1 - (intOf iv).toNat)
  case atStart => exact ⟨0, 0, _, _, rfl, Nat.zero_le _, Nat.le_refl _, by rw [HF0.out], HA0⟩
  case round =>
    obtain ⟨k, c, T, z, rfl, hk, hc, rfl, hap⟩ := hrel
    obtain ⟨wo, rfl⟩ : ∃ wo : World, wo = wr := ⟨_, rfl⟩
    by_cases hlt : k < len1
    · obtain ⟨g, off, rfl, hg, hc0⟩ := HI.out.cell k hlt
      have hcell : wo.cell? ⟨g, off + k, none⟩ = some (.int .i64 (zl k)) := (hap.out.bel.cell (p := ⟨g, off + k, none⟩) (by rw [HBE.out]; exact hg)).trans hc0
      obtain ⟨v, hv, hv7⟩ := and_low (zl k) 7 (by decide)
      rw [show ((7 : Nat) : Int) = 7 from rfl] at hv
      obtain ⟨K, hK⟩ : ∃ K, K = v + 1 := ⟨_, rfl⟩
      have hsum : (1 : Int) + (v : Int) = (K : Int) := by omega
      have hK1 : 1 ≤ K := by omega
      have hK8 : K ≤ 8 := by omega
      have HTK := Lib.hid (ptake_any (K : Int) (k : Int) _ hap.out.tab (by omega) (by omega) (WalkArith.wf_i64 (by omega)))
      rw [show atLeast1 (K : Int) = K by unfold atLeast1; omega] at HTK
      have HK := Lib.hid hk
      have HAP := hap
      have HHC : Hid (∀ wx, Below B w wx → wx.cell? ⟨g, off + k, none⟩ = some (.int .i64 (zl k))) := (show ∀ wx, Below B w wx → wx.cell? ⟨g, off + k, none⟩ = some (.int .i64 (zl k)) from fun wx hb => (hb.cell (p := ⟨g, off + k, none⟩) (by rw [HBE.out]; exact hg)).trans hc0)
      clear hc0 hK hap
      go_wp2_with fail
      refine HTK.out.mono ?_
      rintro en w2 hq
      rcases hq with ⟨rfl, _, rfl⟩ | ⟨r, rfl, hr, hp2, hk2⟩
      · go_wp2
        go_roundw
        case rel => first | exact ⟨k + 1, c, T, z, by go_num, by omega, by omega, rfl, HAP⟩ | ((repeat apply Exists.intro); exact ⟨⟨k + 1, c, T, z, by go_num, by omega, by omega, rfl, HAP⟩, rfl⟩)
        case measure => simp [intOf]; omega
      · obtain ⟨r1, r2, r3⟩ := run_ge hr hK1
        obtain ⟨f1, f2⟩ := free_put hr hK1 (k : Int)
        obtain ⟨v1, v2, v3, v4⟩ := put_give hr hK1 (k : Int)
        have hfn : freeT n T ≤ n := by unfold freeT; omega
        have HIN0 : Hid (ApIn B n tp ts tg tm go (c + K) (putT T r K (k : Int) K) (fillZ z r 0 ((k : Int) + 1)) w w2) := (show ApIn B n tp ts tg tm go (c + K) (putT T r K (k : Int) K) (fillZ z r 0 ((k : Int) + 1)) w w2 by
          rw [fillZ_zero]
          exact ⟨hp2, HAP.out.own.keeps hk2 (by have := HAP.out.ne; simp; omega), below_keeps2 HAP.out.bel hk2 (by rw [HBE.out]; exact HAP.out.bel.size) hgB hmB⟩)
        have HZ0 : Hid (∀ i, r ≤ i → i < r + K → z i = 0) := (show ∀ i, r ≤ i → i < r + K → z i = 0 from fun i h1 h2 => (HAP.out.same i (by omega)).2 (r3 i h1 h2))
        have HT0 : Hid (∀ i, r ≤ i → i < r + K → T i = none) := r3
        have HPO := Lib.hid (fun (j : Nat) (hj : j < K) => put_of (T := T) (r := r) (k : Int) hj)
        have HV1 := Lib.hid v1
        have HV2 := Lib.hid v2
        have HV3 := Lib.hid v3
        have HV4 := Lib.hid v4
        have HB0 := Lib.hid HAP.out.bel.size
        generalize hT' : putT T r K (k : Int) K = T' at HIN0 HPO HV1 HV2 f1
        have HTE := Lib.hid hT'
        generalize hF' : freeT n T' = F' at f1
        have HF' := Lib.hid hF'
        generalize hF : freeT n T = F at f1 f2 hfn ⊢
        have HF := Lib.hid hF
        have hsub : (F : Int) - (K : Int) = (F' : Int) := by omega
        have hadd : (F' : Int) + (K : Int) = (F : Int) := by omega
        have hrz : ((r : Int) == 0) = false := by simpa using (by omega : ¬ (r : Int) = 0)
        have hrn : ¬ (n : Int) < (r : Int) + (K : Int) := by omega
        clear hT' hF' hF v1 v2 v3 v4 hr hp2 hk2 r3 f1 f2
        go_wp2_with fail
        go_loopw [12] (fun pv wr => ∃ q j : Nat, pv = .int .i64 (q : Nat) ∧ j ≤ K ∧ Hid (q = r + j) ∧ Hid (ApIn B n tp ts tg tm go (c + K) T' (fillZ z r j ((k : Int) + 1)) w wr)) (fun pv _ => r + K - (intOf pv).toNat)
        case atStart => exact ⟨r, 0, rfl, Nat.zero_le _, rfl, HIN0⟩
        case round =>
          obtain ⟨q, j, rfl, hj, hq, hin⟩ := hrel
          have hqv := hq.out
          by_cases hlt2 : j < K
          · have hql : (q : Int) < (r : Int) + (K : Int) := by omega
            have HOF := Lib.hid (pof_any (q : Int) _ hin.out.tab (WalkArith.wf_i64 (by omega)))
            rw [show (q : Int) = ((r + j : Nat) : Int) by omega, HPO.out j hlt2] at HOF
            rw [← hqv] at HOF
            have hqn : q < n := by omega
            have hq0 : (0 : Int) ≤ (q : Int) := by omega
            have hq1 : (q : Int) < (n : Int) := by omega
            have HZQ : Hid (fillZ z r j ((k : Int) + 1) q = 0) := (show fillZ z r j ((k : Int) + 1) q = 0 by
              unfold fillZ
              rw [if_neg (by omega)]
              exact HZ0.out q (by omega) (by omega))
            clear hqv
            go_wp2_with fail
            refine HOF.out.mono ?_
            rintro en w3 ⟨rfl, hb3⟩
            obtain ⟨e1, e2⟩ := (hin.out.own.below hb3).cell hqn
            rw [HZQ.out] at e1
            have HIN1 := Lib.hid (hin.out.step (q := q) HAP.out.ne (by rw [HBE.out]; exact hin.out.bel.size) hgoB hb3 ((k : Int) + 1))
            rw [hq.out, fillZ_succ, ← hq.out] at HIN1
            clear hb3
            go_wp2
            go_roundw
            case rel => first | exact ⟨q + 1, j + 1, by go_num, by omega, (show q + 1 = r + (j + 1) by have := hq.out; omega), HIN1⟩ | ((repeat apply Exists.intro); exact ⟨⟨q + 1, j + 1, by go_num, by omega, (show q + 1 = r + (j + 1) by have := hq.out; omega), HIN1⟩, rfl⟩)
            case measure => have := hq.out; simp [intOf]; omega
          · obtain rfl : K = j := by omega
            have hql : ¬ (q : Int) < (r : Int) + (K : Int) := by omega
            have e0 := HHC.out _ hin.out.bel
            clear hlt2 hqv
            have HFR := Lib.hid (pfree_any _ hin.out.tab)
            rw [HF'.out] at HFR
            have HG1 := Lib.hid (pgive_any (r : Int) _ hin.out.tab (WalkArith.wf_i64 (by omega)))
            rw [HV1.out, HV2.out] at HG1
            go_wp2_with fail
            · refine HG1.out.mono ?_
              rintro en w4 ⟨rfl, hp4, hk4⟩
              have HG2 := Lib.hid (pgive_any (r : Int) _ hp4 (WalkArith.wf_i64 (by omega)))
              rw [HV3.out, HV4.out] at HG2
              have hb4 := below_keeps2 hin.out.bel hk4 (by rw [HBE.out]; exact hin.out.bel.size) hgB hmB
              have HB4 := Lib.hid hb4
              have HO4 := Lib.hid (hin.out.own.keeps hk4 (by have := HAP.out.ne; simp; omega))
              clear hp4 hk4 hb4
              go_wp2_with fail
              refine HG2.out.mono ?_
              rintro en w5 ⟨rfl, hp5, hk5⟩
              have HIN5 : Hid (ApIn B n tp ts tg tm go (c + K) T (fillZ (fillZ z r K ((k : Int) + 1)) r 0 0) w w5) := (show ApIn B n tp ts tg tm go (c + K) T (fillZ (fillZ z r K ((k : Int) + 1)) r 0 0) w w5 by
                rw [fillZ_zero]
                exact ⟨hp5, HO4.out.keeps hk5 (by have := HAP.out.ne; simp; omega), below_keeps2 HB4.out hk5 (by rw [HBE.out]; exact HB4.out.size) hgB hmB⟩)
              clear hp5 hk5
              go_wp2_with fail
              go_loopw [16] (fun pv wr => ∃ q j : Nat, pv = .int .i64 (q : Nat) ∧ j ≤ K ∧ Hid (q = r + j) ∧ Hid (ApIn B n tp ts tg tm go (c + K) T (fillZ (fillZ z r K ((k : Int) + 1)) r j 0) w wr)) (fun pv _ => r + K - (intOf pv).toNat)
              case atStart => exact ⟨r, 0, rfl, Nat.zero_le _, rfl, HIN5⟩
              case round =>
                obtain ⟨q, j, rfl, hj, hq, hin⟩ := hrel
                have hqv := hq.out
                by_cases hlt2 : j < K
                · have hql : (q : Int) < (r : Int) + (K : Int) := by omega
                  have hqn : q < n := by omega
                  have hq0 : (0 : Int) ≤ (q : Int) := by omega
                  have hq1 : (q : Int) < (n : Int) := by omega
                  clear hqv
                  obtain ⟨e1, e2⟩ := hin.out.own.cell hqn
                  have HIN1 := Lib.hid (hin.out.step (q := q) HAP.out.ne (by rw [HBE.out]; exact hin.out.bel.size) hgoB (Below.refl _ _) 0)
                  rw [hq.out, fillZ_succ, ← hq.out] at HIN1
                  go_wp2
                  go_roundw
                  case rel => first | exact ⟨q + 1, j + 1, by go_num, by omega, (show q + 1 = r + (j + 1) by have := hq.out; omega), HIN1⟩ | ((repeat apply Exists.intro); exact ⟨⟨q + 1, j + 1, by go_num, by omega, (show q + 1 = r + (j + 1) by have := hq.out; omega), HIN1⟩, rfl⟩)
                  case measure => have := hq.out; simp [intOf]; omega
                · obtain rfl : K = j := by omega
                  have hql : ¬ (q : Int) < (r : Int) + (K : Int) := by omega
                  clear hlt2 hqv
                  have HFR2 := Lib.hid (pfree_any _ hin.out.tab)
                  rw [HF.out] at HFR2
                  have HEND : Hid (ApAt B n tp ts tg tm go (c + K) T z w _) := (show ApAt B n tp ts tg tm go (c + K) T z w _ from
                    ⟨hin.out.tab, hin.out.own.congr (fun i hi => by
                      unfold fillZ
                      by_cases h : r ≤ i ∧ i < r + K
                      · rw [if_pos h, HZ0.out i h.1 h.2]
                      · rw [if_neg h, if_neg h]), HAP.out.same, hin.out.bel, HAP.out.ne⟩)
                  go_wp2_with fail
                  refine HFR2.out.mono ?_
                  rintro en w7 ⟨rfl, q2, rfl⟩
                  have HE2 := Lib.hid (HEND.out.bel1 (below_drewN (Below.refl _ _) q2) (by rw [HBE.out]; exact HEND.out.bel.size))
                  go_wp2
                  go_roundw
                  case rel => first | exact ⟨k + 1, c + K, T, z, by go_num, by omega, by omega, by rw [HF.out], HE2⟩ | ((repeat apply Exists.intro); exact ⟨⟨k + 1, c + K, T, z, by go_num, by omega, by omega, by rw [HF.out], HE2⟩, rfl⟩)
                  case measure => simp [intOf]; omega
            · have HEND : Hid (ApAt B n tp ts tg tm go (c + K) T' (fillZ z r K ((k : Int) + 1)) w _) := (show ApAt B n tp ts tg tm go (c + K) T' (fillZ z r K ((k : Int) + 1)) w _ from
                ⟨hin.out.tab, hin.out.own, fun i hi => by
                  rw [← HTE.out]
                  unfold fillZ putT
                  by_cases h : r ≤ i ∧ i < r + K
                  · rw [if_pos h, if_pos h]; simp; omega
                  · rw [if_neg h, if_neg h]; exact HAP.out.same i hi, hin.out.bel, HAP.out.ne⟩)
              refine HFR.out.mono ?_
              rintro en w7 ⟨rfl, q2, rfl⟩
              have HE2 := Lib.hid (HEND.out.bel1 (below_drewN (Below.refl _ _) q2) (by rw [HBE.out]; exact HEND.out.bel.size))
              go_wp2
              go_roundw
              case rel => first | exact ⟨k + 1, c + K, T', _, by go_num, by omega, by omega, by rw [HF'.out], HE2⟩ | ((repeat apply Exists.intro); exact ⟨⟨k + 1, c + K, T', _, by go_num, by omega, by omega, by rw [HF'.out], HE2⟩, rfl⟩)
              case measure => simp [intOf]; omega
    · obtain rfl : len1 = k := by omega
      clear hlt
      go_wp2
      go_ret
      exact ⟨rfl, by rw [← HBE.out]; exact hap.out.bel⟩
theorem pagesApart.walk (a0 : Int) (a1 : Option Addr) (len1 cap1 : Nat) (z1 : Nat → Int) (w : World) (w0 : (Lit.int .i64 a0).wf = true) (w1 : Ints .i64 w a1 len1 cap1 z1) :
    Calls Try.prog 6 #[.int .i64 a0, .slice a1 len1 cap1] w fun e w' => e = .returned (.bool true) ∧ Below w.heap.size w w' := by
  by_cases h : 1 ≤ a0 ∧ a0 ≤ 200 ∧ len1 ≤ 60
  · obtain ⟨n, rfl⟩ : ∃ n : Nat, a0 = n := ⟨a0.toNat, by omega⟩
    exact pagesApart.inside n a1 len1 cap1 z1 w (by omega) (by omega) h.2.2 w1
  · exact pagesApart.out a0 a1 len1 cap1 w h (Nat.le_trans w1.le w1.max)
end Go.Proofs.Ytogifanooleppaa

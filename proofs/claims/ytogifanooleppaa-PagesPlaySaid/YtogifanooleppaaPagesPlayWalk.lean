/- The walk of the law PagesPlay: it answers true for every input. -/
import Derived.Test.YtogifanooleppaaPagesPlayOps
import Derived.Test.YtogifanooleppaaOpen
import Derived.Deep.RegionHeld3
namespace Go.Proofs.Ytogifanooleppaa
open Go.RowKit Go.Maps
set_option linter.unusedVariables false

theorem below_drewN {B : Nat} {w w' : World} (h : Below B w w') (k : Nat) : Below B w (w'.drewN k) := ⟨h.os, h.tape, h.output, h.size, h.block⟩
theorem pagesPlay.out (a0 : Int) (a1 : Option Addr) (len1 cap1 : Nat) (w : World) (h : 80 < len1 ∨ (300 < a0 ∧ a0 ≤ 4096)) (hl : len1 ≤ 9223372036854775807) :
    Calls Try.prog 5 #[.int .i64 a0, .slice a1 len1 cap1] w fun e w' => e = .returned (.bool true) ∧ Below w.heap.size w w' := by
  rcases (by omega : 80 < len1 ∨ (len1 ≤ 80 ∧ 300 < a0 ∧ a0 ≤ 4096)) with h | h
  all_goals
    go_enter Try.func5, Try.ntmps5
    go_wp2_with (go_at_call 24; refine (alive4 _).mono ?_; rintro e w1 ⟨rfl, hb⟩)
    go_ret
    exact ⟨rfl, by assumption⟩
set_option maxRecDepth 100000 in
set_option maxHeartbeats 8000000 in
theorem pagesPlay.inside (a0 : Int) (n : Nat) (a1 : Option Addr) (len1 cap1 : Nat) (wy nn mk : Nat → Int) (w : World) (hn : (a0 ≤ 300 ∧ n = pagesN a0) ∨ (300 < a0 ∧ 4096 < a0 ∧ n = 200)) (hlen : len1 ≤ 80)
    (hI : ∀ i, i < len1 → ((Lit.int .i64 (wy i)).wf = true ∧ (Lit.int .i64 (nn i)).wf = true ∧ (Lit.int .i64 (mk i)).wf = true) ∧ ∃ b off, a1 = some ⟨b, off, none⟩ ∧ b < w.heap.size ∧ w.cell? ⟨b, off + i * 3, none⟩ = some (.int .i64 (wy i)) ∧ w.cell? ⟨b, off + i * 3 + 1, none⟩ = some (.int .i64 (nn i)) ∧ w.cell? ⟨b, off + i * 3 + 2, none⟩ = some (.int .i64 (mk i))) :
    Calls Try.prog 5 #[.int .i64 a0, .slice a1 len1 cap1] w fun e w' => e = .returned (.bool true) ∧ Below w.heap.size w w' := by
  have HI := Lib.hid hI
  have hn1 : 1 ≤ n ∧ n ≤ 300 := by rcases hn with ⟨h, rfl⟩ | ⟨_, h, rfl⟩ <;> (try unfold pagesN) <;> omega
  have HGN := Lib.hid (fun a w => pnew_any a w)
  have HGR := Lib.hid (fun a w => rnew_any a w)
  have d1 : decide ((80 : Int) < (len1 : Int)) = false := by rw [decide_eq_false_iff_not]; omega
  obtain ⟨B, hB⟩ : ∃ B, B = w.heap.size := ⟨_, rfl⟩
  have HBE := Lib.hid hB
  clear hB hI
  rcases hn with ⟨h1, hnE⟩ | ⟨h0, h1, hnE⟩
  · have d2 : decide ((300 : Int) < a0) = false := by rw [decide_eq_false_iff_not]; omega
    have d3 : decide ((4096 : Int) < a0) = false := by rw [decide_eq_false_iff_not]; omega
    have HN1 := Lib.hid (HGN.out a0)
    have HN2 := Lib.hid (HGR.out a0)
    rw [← hnE] at HN1 HN2
    have HNE := Lib.hid hnE
    clear hnE h1
    go_enter Try.func5, Try.ntmps5
    go_wp2_with fail
    refine (alive4 _).mono ?_
    rintro e wa ⟨rfl, hba⟩
    have HBa := Lib.hid hba
    clear hba
    go_wp2_with fail
    refine (HN1.out _).mono ?_
    rintro en w1 ⟨tp, ts, tg, tm, rfl, hp1, hz1, hb1⟩
    have HP1 := Lib.hid hp1
    have HZ1 := Lib.hid hz1
    have HB1 := Lib.hid hb1
    clear hp1 hz1 hb1
    go_wp2_with fail
    refine (HGN.out _ _).mono ?_
    rintro en w2 ⟨op, os, og, om, rfl, hp2, hz2, hb2⟩
    have HP2 := Lib.hid hp2
    have HZ2 := Lib.hid hz2
    have HB2 := Lib.hid hb2
    clear hp2 hz2 hb2
    go_wp2_with fail
    refine (HN2.out _).mono ?_
    rintro en w3 ⟨rp, rfl, hp3, hz3, hb3⟩
    have HPL : Hid (PlAt B w1.heap.size w2.heap.size n tp ts tg tm op os og om rp 0 0 none (fun _ => none) (fun _ => none) [] w w3) := (show PlAt B w1.heap.size w2.heap.size n tp ts tg tm op os og om rp 0 0 none (fun _ => none) (fun _ => none) [] w w3 by
      have l1 := HP1.out.lt
      have l2 := HP2.out.lt
      have s1 := HBa.out.size
      have s2 := HB1.out.size
      have s3 := HB2.out.size
      have s4 := hb3.size
      have z1 := HZ1.out
      have z2 := HZ2.out
      rw [HBE.out]
      refine ⟨(HP1.out.below HB2.out).below (hb3.mono (Nat.le_refl _)), ?_, hp3, Same.nil (by omega), ?_, ⟨⟨by omega, by omega, by omega, by omega⟩, l1⟩, ⟨z2, l2⟩, ⟨hz3, fun g hg => (by cases hg)⟩, ⟨by omega, by omega⟩, s4⟩
      · have := HP2.out.below hb3
        rwa [show pagesN 9 = 9 by unfold pagesN; omega] at this
      · exact ((HBa.out.trans (HB1.out.mono s1)).trans (HB2.out.mono (by omega))).trans (hb3.mono (by omega)))
    have hB2 : B ≤ w2.heap.size := by
      have s1 := HBa.out.size
      have s2 := HB1.out.size
      have s3 := HB2.out.size
      rw [HBE.out]; omega
    generalize w1.heap.size = B2 at HPL
    generalize w2.heap.size = B3 at HPL hB2
    clear hp3 hz3 hb3
    go_wp2_with fail
    go_loopw [9] (fun iv wr => ∃ (k c co : Nat) (rq : Option Nat) (T To : Nat → Option RunT) (l : List RunT), iv = .int .i64 (k : Nat) ∧ k ≤ len1 ∧ c ≤ 300 * k ∧ co ≤ 9 * k ∧ Hid (l.length ≤ k) ∧ Hid (PlAt B B2 B3 n tp ts tg tm op os og om rp c co rq T To l w wr)) (fun iv _ => len1 - (intOf iv).toNat)
    case atStart => exact ⟨0, 0, 0, _, _, _, _, rfl, Nat.zero_le _, Nat.le_refl _, Nat.le_refl _, Nat.le_refl _, HPL⟩
    case round =>
      obtain ⟨k, c, co, rq, T, To, l, rfl, hk, hc, hco, hll, hpl⟩ := hrel
      obtain ⟨wo, rfl⟩ : ∃ wo : World, wo = wr := ⟨_, rfl⟩
      by_cases hlt : k < len1
      · obtain ⟨⟨f1, f2, f3⟩, g, off, rfl, hg, hc0, hc1, hc2⟩ := HI.out k hlt
        have c0 := (hpl.out.bel.cell (p := ⟨g, off + k * 3, none⟩) (by rw [HBE.out]; exact hg)).trans hc0
        have c1 := (hpl.out.bel.cell (p := ⟨g, off + k * 3 + 1, none⟩) (by rw [HBE.out]; exact hg)).trans hc1
        have c2 := (hpl.out.bel.cell (p := ⟨g, off + k * 3 + 2, none⟩) (by rw [HBE.out]; exact hg)).trans hc2
        have hi0 : (0 : Int) ≤ (k : Int) := by omega
        have hi1 : (k : Int) < (len1 : Int) := by omega
        clear hc0 hc1 hc2
        generalize hA0 : wy k = wk at c0 f1
        generalize hA1 : nn k = nk at c1 f2
        generalize hA2 : mk k = mm at c2 f3
        have hnk : nk ≤ 9223372036854775807 := by have := f2; simp [Lit.wf, IntKind.min, IntKind.max, IntKind.signed, IntKind.bits] at this; omega
        have F2 := Lib.hid f2
        have F3 := Lib.hid f3
        have HNK := Lib.hid hnk
        clear hA0 hA1 hA2 f1 f2 f3 hnk
        obtain ⟨R1, hR1⟩ := runIs_exists 9 (usedB To) (atLeast1 1)
        obtain ⟨wx, hwx⟩ : ∃ wx, wx = wo.alloc (.cells #[.int .i64 wk, .int .i64 nk, .int .i64 mm] 36) := ⟨_, rfl⟩
        have hbx : Below wo.heap.size wo wx := by rw [hwx]; exact (Below.refl _ _).alloc (Nat.le_refl _) _
        have HPX := Lib.hid (hpl.out.below hbx)
        have HXC : Hid (wx.heap[wo.heap.size]? = some (.cells #[.int .i64 wk, .int .i64 nk, .int .i64 mm] 36 (0, 0))) := (show _ by rw [hwx]; exact heap_alloc_at _ _)
        have HGC : Hid (B3 ≤ wo.heap.size) := hpl.out.big
        have HRLT : Hid (rp < wo.heap.size ∧ ∀ g, rq = some g → g < wo.heap.size) := hpl.out.ref.lt
        have HOT := Lib.hid (tk_one 1 (k : Nat) R1 wx HPX.out.oth (by omega) (by omega) (WalkArith.wf_i64 (by omega)) hR1)
        have HWX := Lib.hid hwx
        clear hbx hwx hR1
        go_wp2_with fail
        rw [← HWX.out]
        generalize wo.heap.size = gc at HXC HGC HRLT ⊢
        refine HOT.out.mono ?_
        rintro en w4 ⟨rfl, hp4, hk4⟩
        have HP4 := Lib.hid (HPX.out.other hp4 hk4)
        have HX4 : Hid (w4.heap[gc]? = some (.cells #[.int .i64 wk, .int .i64 nk, .int .i64 mm] 36 (0, 0))) := (show _ from hk4.at HXC.out (by have := HPX.out.o1; have := HGC.out; simp; omega))
        have e0 : w4.cell? ⟨gc, 0, none⟩ = some (.int .i64 wk) := cell_of_block HX4.out
        have e1 : w4.cell? ⟨gc, 1, none⟩ = some (.int .i64 nk) := cell_of_block HX4.out
        have e2 : w4.cell? ⟨gc, 2, none⟩ = some (.int .i64 mm) := cell_of_block HX4.out
        have HPD : Hid (PlAt B B2 B3 n tp ts tg tm op os og om rp c (co + 9) rq T _ l w w4.drew) := (show _ from HP4.out.below (Below.refl _ _).drew)
        have HC5 := Lib.hid (fun (w5 : World) (h : Keeps [tg, tm] w4.drew w5) => (show w5.heap[gc]? = some (.cells #[.int .i64 wk, .int .i64 nk, .int .i64 mm] 36 (0, 0)) from
          h.at (show w4.drew.heap[gc]? = _ from HX4.out) (by have := HPX.out.t1; have := HPX.out.le; have := HGC.out; simp; omega)))
        have HRQ : Hid (gc ∉ rp :: rq.toList) := (show gc ∉ rp :: rq.toList by
          have := HPX.out.r1
          have hrl := HRLT.out
          cases hq0 : rq with
          | none => simp; omega
          | some g => have := hrl.2 g hq0; simp; omega)
        have HC6 := Lib.hid (fun (w5 w6 : World) (h : Keeps [tg, tm] w4.drew w5) (h2 : Keeps (rp :: rq.toList) w5 w6) => (show w6.heap[gc]? = some (.cells #[.int .i64 wk, .int .i64 nk, .int .i64 mm] 36 (0, 0)) from
          h2.at (HC5.out w5 h) HRQ.out))
        clear hp4 hk4 hpl c0 c1 c2
        by_cases hw0 : wk = 0
        · subst hw0
          obtain ⟨R, hR⟩ := runIs_exists n (usedB T) (atLeast1 nk)
          have HR := Lib.hid hR
          have HT := Lib.hid (tk_one nk mm R w4.drew HPD.out.tab HNK.out (by omega) F3.out hR)
          have HU := Lib.hid (fun (w5 : World) (h : RefP w5 rp n rq l) => rtk_one nk mm R w5 h HNK.out (by have := hll.out; omega) HPD.out.same hR)
          have HREF := Lib.hid (fun (w5 : World) (h : Keeps [tg, tm] w4.drew w5) => HPD.out.ref.keeps h (by have := HPX.out.t1; have := HPX.out.le; have := HPX.out.r1; simp; omega) (fun g hg => by have := HPX.out.t1; have := HPX.out.le; have := HPX.out.r1.2 g hg; simp; omega))
          clear hR
          go_wp2_with fail
          go_region_held3 (fun w' => w'.cell? ⟨gc, 0, none⟩ = some (.int .i64 0) ∧ w'.cell? ⟨gc, 1, none⟩ = some (.int .i64 nk) ∧ w'.cell? ⟨gc, 2, none⟩ = some (.int .i64 mm))
            (first | go_keep | exact q5 | exact q6)
            (first
              | (go_at_call 27
                 refine HT.out.mono ?_
                 rintro e w5 ⟨rfl, hp5, hk5⟩
                 have q5 := And.intro (cell_of_block (i := 0) (HC5.out w5 hk5)) (And.intro (cell_of_block (i := 1) (HC5.out w5 hk5)) (cell_of_block (i := 2) (HC5.out w5 hk5))))
              | (go_at_call 28
                 refine (HU.out w5 (HREF.out w5 hk5)).mono ?_
                 rintro e w6 ⟨rfl, rq', hp6, hq6, hk6⟩
                 have q6 := And.intro (cell_of_block (i := 0) (HC6.out w5 w6 hk5 hk6)) (And.intro (cell_of_block (i := 1) (HC6.out w5 w6 hk5 hk6)) (cell_of_block (i := 2) (HC6.out w5 w6 hk5 hk6)))))
          have HP6 := Lib.hid (HPD.out.moved hp5 hk5 hp6 hq6 hk6 (same_taken HPD.out.same HR.out (by unfold atLeast1; omega) mm))
          have HL6 : Hid ((takenL l R (atLeast1 nk) mm).length ≤ k + 1) := (show _ from Nat.le_trans (takenL_len _ _ _ _) (by have := hll.out; omega))
          have HX6 := Lib.hid (HC6.out w5 w6 hk5 hk6)
          generalize takenL l R (atLeast1 nk) mm = l' at HP6 HL6
          generalize takenT T R (atLeast1 nk) mm = T' at HP6
          clear hp5 hk5 hp6 hq6 hk6
          have g1 : w6.cell? ⟨gc, 1, none⟩ = some (.int .i64 nk) := cell_of_block HX6.out
          have HOF := Lib.hid (pof_any nk w6 HP6.out.tab F2.out)
          have HRO := Lib.hid (fun (w7 : World) (hb : Below w6.heap.size w6 w7) => rof_any nk w7 (HP6.out.ref.below hb))
          have HFT := Lib.hid (fun (w7 : World) (hb : Below w6.heap.size w6 w7) => pfree_any w7 (HP6.out.tab.below hb))
          have HFR := Lib.hid (fun (w7 : World) (hb : Below w6.heap.size w6 w7) => rfree_any w7 (HP6.out.ref.below hb) HP6.out.same.sum_le)
          have HG7 := Lib.hid (fun (w7 : World) (hb : Below w6.heap.size w6 w7) => (show w7.cell? ⟨gc, 1, none⟩ = some (.int .i64 nk) from (hb.cell (p := ⟨gc, 1, none⟩) (Array.getElem?_eq_some_iff.1 HX6.out).1).trans (cell_of_block HX6.out)))
          have hsame := HP6.out.same.of nk
          have hfree := HP6.out.same.free
          have hfn : freeT n T' ≤ 4096 := by unfold freeT; omega
          rw [hsame] at HRO
          rw [← hfree] at HFR
          generalize freeT n T' = FF at HFT HFR hfn
          generalize ofT T' nk = X at HOF HRO
          obtain ⟨xa, xb, xc⟩ := X
          dsimp only at HOF HRO
          clear hsame hfree
          go_wp2_with fail
          refine HOF.out.mono ?_
          rintro en w7 ⟨rfl, hb7⟩
          have g7 := HG7.out w7 hb7
          have HB7 := Lib.hid hb7
          clear hb7
          go_wp2_with fail
          refine (HRO.out w7 HB7.out).mono ?_
          rintro en w8 ⟨rfl, k8, rfl⟩
          have HB8 : Hid (Below w6.heap.size w6 (w7.drewN k8)) := (show Below w6.heap.size w6 (w7.drewN k8) from below_drewN HB7.out k8)
          go_wp2_with fail
          refine (HFT.out _ HB8.out).mono ?_
          rintro en w9 ⟨rfl, k9, rfl⟩
          have HB9 : Hid (Below w6.heap.size w6 (w7.drewN (k8 + k9))) := (show Below w6.heap.size w6 (w7.drewN (k8 + k9)) from below_drewN HB7.out (k8 + k9))
          go_wp2_with fail
          refine (HFR.out _ HB9.out).mono ?_
          rintro en w10 ⟨rfl, rfl⟩
          have HPZ := Lib.hid (HP6.out.below HB9.out)
          go_wp2
          go_roundw
          case rel => first | exact ⟨k + 1, (c + n), co + 9, _, _, _, _, by go_num, by omega, by omega, by omega, HL6, HPZ⟩ | ((repeat apply Exists.intro); exact ⟨⟨k + 1, (c + n), co + 9, _, _, _, _, by go_num, by omega, by omega, by omega, HL6, HPZ⟩, rfl⟩)
          case measure => simp [intOf]; omega
        · by_cases hw1 : wk = 1
          · subst hw1
            obtain ⟨bg, hbg⟩ : ∃ bg, bg = canGive T nk := ⟨_, rfl⟩
            have HT := Lib.hid (pgive_any nk w4.drew HPD.out.tab F2.out)
            have HU := Lib.hid (fun (w5 : World) (h : RefP w5 rp n rq l) => rgv_one nk w5 h HPD.out.same)
            rw [← hbg] at HT HU
            have HREF := Lib.hid (fun (w5 : World) (h : Keeps [tg, tm] w4.drew w5) => HPD.out.ref.keeps h (by have := HPX.out.t1; have := HPX.out.le; have := HPX.out.r1; simp; omega) (fun g hg => by have := HPX.out.t1; have := HPX.out.le; have := HPX.out.r1.2 g hg; simp; omega))
            clear hbg hw0
            go_wp2_with fail
            go_region_held3 (fun w' => w'.cell? ⟨gc, 0, none⟩ = some (.int .i64 1) ∧ w'.cell? ⟨gc, 1, none⟩ = some (.int .i64 nk) ∧ w'.cell? ⟨gc, 2, none⟩ = some (.int .i64 mm))
              (first | go_keep | exact q5 | exact q6)
              (first
                | (go_at_call 29
                   refine HT.out.mono ?_
                   rintro e w5 ⟨rfl, hp5, hk5⟩
                   have q5 := And.intro (cell_of_block (i := 0) (HC5.out w5 hk5)) (And.intro (cell_of_block (i := 1) (HC5.out w5 hk5)) (cell_of_block (i := 2) (HC5.out w5 hk5))))
                | (go_at_call 30
                   refine (HU.out w5 (HREF.out w5 hk5)).mono ?_
                   rintro e w6 ⟨rfl, rq', l', hp6, hl6, hs6, hq6, hk6⟩
                   have q6 := And.intro (cell_of_block (i := 0) (HC6.out w5 w6 hk5 hk6)) (And.intro (cell_of_block (i := 1) (HC6.out w5 w6 hk5 hk6)) (cell_of_block (i := 2) (HC6.out w5 w6 hk5 hk6)))))
            have HP6 := Lib.hid (HPD.out.moved hp5 hk5 hp6 hq6 hk6 hs6)
            have HL6 : Hid (l'.length ≤ k + 1) := (show l'.length ≤ k + 1 by have := hll.out; omega)
            have HX6 := Lib.hid (HC6.out w5 w6 hk5 hk6)
            generalize givenT T nk = T' at HP6
            clear hp5 hk5 hp6 hq6 hk6 hl6 hs6
            have g1 : w6.cell? ⟨gc, 1, none⟩ = some (.int .i64 nk) := cell_of_block HX6.out
            have HOF := Lib.hid (pof_any nk w6 HP6.out.tab F2.out)
            have HRO := Lib.hid (fun (w7 : World) (hb : Below w6.heap.size w6 w7) => rof_any nk w7 (HP6.out.ref.below hb))
            have HFT := Lib.hid (fun (w7 : World) (hb : Below w6.heap.size w6 w7) => pfree_any w7 (HP6.out.tab.below hb))
            have HFR := Lib.hid (fun (w7 : World) (hb : Below w6.heap.size w6 w7) => rfree_any w7 (HP6.out.ref.below hb) HP6.out.same.sum_le)
            have HG7 := Lib.hid (fun (w7 : World) (hb : Below w6.heap.size w6 w7) => (show w7.cell? ⟨gc, 1, none⟩ = some (.int .i64 nk) from (hb.cell (p := ⟨gc, 1, none⟩) (Array.getElem?_eq_some_iff.1 HX6.out).1).trans (cell_of_block HX6.out)))
            have hsame := HP6.out.same.of nk
            have hfree := HP6.out.same.free
            have hfn : freeT n T' ≤ 4096 := by unfold freeT; omega
            rw [hsame] at HRO
            rw [← hfree] at HFR
            generalize freeT n T' = FF at HFT HFR hfn
            generalize ofT T' nk = X at HOF HRO
            obtain ⟨xa, xb, xc⟩ := X
            dsimp only at HOF HRO
            clear hsame hfree
            go_wp2_with fail
            refine HOF.out.mono ?_
            rintro en w7 ⟨rfl, hb7⟩
            have g7 := HG7.out w7 hb7
            have HB7 := Lib.hid hb7
            clear hb7
            go_wp2_with fail
            refine (HRO.out w7 HB7.out).mono ?_
            rintro en w8 ⟨rfl, k8, rfl⟩
            have HB8 : Hid (Below w6.heap.size w6 (w7.drewN k8)) := (show Below w6.heap.size w6 (w7.drewN k8) from below_drewN HB7.out k8)
            go_wp2_with fail
            refine (HFT.out _ HB8.out).mono ?_
            rintro en w9 ⟨rfl, k9, rfl⟩
            have HB9 : Hid (Below w6.heap.size w6 (w7.drewN (k8 + k9))) := (show Below w6.heap.size w6 (w7.drewN (k8 + k9)) from below_drewN HB7.out (k8 + k9))
            go_wp2_with fail
            refine (HFR.out _ HB9.out).mono ?_
            rintro en w10 ⟨rfl, rfl⟩
            have HPZ := Lib.hid (HP6.out.below HB9.out)
            go_wp2
            go_roundw
            case rel => first | exact ⟨k + 1, (c), co + 9, _, _, _, _, by go_num, by omega, by omega, by omega, HL6, HPZ⟩ | ((repeat apply Exists.intro); exact ⟨⟨k + 1, (c), co + 9, _, _, _, _, by go_num, by omega, by omega, by omega, HL6, HPZ⟩, rfl⟩)
            case measure => simp [intOf]; omega
          · have b0 : (wk == 0) = false := by rw [beq_eq_false_iff_ne]; exact hw0
            have b1 : (wk == 1) = false := by rw [beq_eq_false_iff_ne]; exact hw1
            obtain ⟨w6, rfl⟩ : ∃ w6 : World, w6 = w4 := ⟨_, rfl⟩
            obtain ⟨T', rfl⟩ : ∃ T' : Nat → Option RunT, T' = T := ⟨_, rfl⟩
            obtain ⟨l', rfl⟩ : ∃ l' : List RunT, l' = l := ⟨_, rfl⟩
            obtain ⟨rq', rfl⟩ : ∃ rq' : Option Nat, rq' = rq := ⟨_, rfl⟩
            have HP6 := HP4
            have HX6 := HX4
            have HL6 : Hid (l'.length ≤ k + 1) := (show l'.length ≤ k + 1 by have := hll.out; omega)
            clear hw0 hw1
            have g1 : w6.cell? ⟨gc, 1, none⟩ = some (.int .i64 nk) := cell_of_block HX6.out
            have HOF := Lib.hid (pof_any nk w6 HP6.out.tab F2.out)
            have HRO := Lib.hid (fun (w7 : World) (hb : Below w6.heap.size w6 w7) => rof_any nk w7 (HP6.out.ref.below hb))
            have HFT := Lib.hid (fun (w7 : World) (hb : Below w6.heap.size w6 w7) => pfree_any w7 (HP6.out.tab.below hb))
            have HFR := Lib.hid (fun (w7 : World) (hb : Below w6.heap.size w6 w7) => rfree_any w7 (HP6.out.ref.below hb) HP6.out.same.sum_le)
            have HG7 := Lib.hid (fun (w7 : World) (hb : Below w6.heap.size w6 w7) => (show w7.cell? ⟨gc, 1, none⟩ = some (.int .i64 nk) from (hb.cell (p := ⟨gc, 1, none⟩) (Array.getElem?_eq_some_iff.1 HX6.out).1).trans (cell_of_block HX6.out)))
            have hsame := HP6.out.same.of nk
            have hfree := HP6.out.same.free
            have hfn : freeT n T' ≤ 4096 := by unfold freeT; omega
            rw [hsame] at HRO
            rw [← hfree] at HFR
            generalize freeT n T' = FF at HFT HFR hfn
            generalize ofT T' nk = X at HOF HRO
            obtain ⟨xa, xb, xc⟩ := X
            dsimp only at HOF HRO
            clear hsame hfree
            go_wp2_with fail
            refine HOF.out.mono ?_
            rintro en w7 ⟨rfl, hb7⟩
            have g7 := HG7.out w7 hb7
            have HB7 := Lib.hid hb7
            clear hb7
            go_wp2_with fail
            refine (HRO.out w7 HB7.out).mono ?_
            rintro en w8 ⟨rfl, k8, rfl⟩
            have HB8 : Hid (Below w6.heap.size w6 (w7.drewN k8)) := (show Below w6.heap.size w6 (w7.drewN k8) from below_drewN HB7.out k8)
            go_wp2_with fail
            refine (HFT.out _ HB8.out).mono ?_
            rintro en w9 ⟨rfl, k9, rfl⟩
            have HB9 : Hid (Below w6.heap.size w6 (w7.drewN (k8 + k9))) := (show Below w6.heap.size w6 (w7.drewN (k8 + k9)) from below_drewN HB7.out (k8 + k9))
            go_wp2_with fail
            refine (HFR.out _ HB9.out).mono ?_
            rintro en w10 ⟨rfl, rfl⟩
            have HPZ := Lib.hid (HP6.out.below HB9.out)
            go_wp2
            go_roundw
            case rel => first | exact ⟨k + 1, (c), co + 9, _, _, _, _, by go_num, by omega, by omega, by omega, HL6, HPZ⟩ | ((repeat apply Exists.intro); exact ⟨⟨k + 1, (c), co + 9, _, _, _, _, by go_num, by omega, by omega, by omega, HL6, HPZ⟩, rfl⟩)
            case measure => simp [intOf]; omega
      · obtain rfl : k = len1 := by omega
        have HBF := Lib.hid hpl.out.bel
        clear hlt
        go_wp2
        go_ret
        exact ⟨rfl, by rw [← HBE.out]; exact HBF.out⟩
  · have d2 : decide ((300 : Int) < a0) = true := by rw [decide_eq_true_iff]; omega
    have d3 : decide ((4096 : Int) < a0) = true := by rw [decide_eq_true_iff]; omega
    have d4 : decide (a0 ≤ 4096) = false := by rw [decide_eq_false_iff_not]; omega
    have HN1 := Lib.hid (HGN.out 200)
    have HN2 := Lib.hid (HGR.out 200)
    rw [show pagesN 200 = n by rw [hnE]; unfold pagesN; omega] at HN1 HN2
    have HNE := Lib.hid hnE
    clear hnE h1
    go_enter Try.func5, Try.ntmps5
    go_wp2_with fail
    refine (alive4 _).mono ?_
    rintro e wa ⟨rfl, hba⟩
    have HBa := Lib.hid hba
    clear hba
    go_wp2_with fail
    refine (HN1.out _).mono ?_
    rintro en w1 ⟨tp, ts, tg, tm, rfl, hp1, hz1, hb1⟩
    have HP1 := Lib.hid hp1
    have HZ1 := Lib.hid hz1
    have HB1 := Lib.hid hb1
    clear hp1 hz1 hb1
    go_wp2_with fail
    refine (HGN.out _ _).mono ?_
    rintro en w2 ⟨op, os, og, om, rfl, hp2, hz2, hb2⟩
    have HP2 := Lib.hid hp2
    have HZ2 := Lib.hid hz2
    have HB2 := Lib.hid hb2
    clear hp2 hz2 hb2
    go_wp2_with fail
    refine (HN2.out _).mono ?_
    rintro en w3 ⟨rp, rfl, hp3, hz3, hb3⟩
    have HPL : Hid (PlAt B w1.heap.size w2.heap.size n tp ts tg tm op os og om rp 0 0 none (fun _ => none) (fun _ => none) [] w w3) := (show PlAt B w1.heap.size w2.heap.size n tp ts tg tm op os og om rp 0 0 none (fun _ => none) (fun _ => none) [] w w3 by
      have l1 := HP1.out.lt
      have l2 := HP2.out.lt
      have s1 := HBa.out.size
      have s2 := HB1.out.size
      have s3 := HB2.out.size
      have s4 := hb3.size
      have z1 := HZ1.out
      have z2 := HZ2.out
      rw [HBE.out]
      refine ⟨(HP1.out.below HB2.out).below (hb3.mono (Nat.le_refl _)), ?_, hp3, Same.nil (by omega), ?_, ⟨⟨by omega, by omega, by omega, by omega⟩, l1⟩, ⟨z2, l2⟩, ⟨hz3, fun g hg => (by cases hg)⟩, ⟨by omega, by omega⟩, s4⟩
      · have := HP2.out.below hb3
        rwa [show pagesN 9 = 9 by unfold pagesN; omega] at this
      · exact ((HBa.out.trans (HB1.out.mono s1)).trans (HB2.out.mono (by omega))).trans (hb3.mono (by omega)))
    have hB2 : B ≤ w2.heap.size := by
      have s1 := HBa.out.size
      have s2 := HB1.out.size
      have s3 := HB2.out.size
      rw [HBE.out]; omega
    generalize w1.heap.size = B2 at HPL
    generalize w2.heap.size = B3 at HPL hB2
    clear hp3 hz3 hb3
    go_wp2_with fail
    go_loopw [9] (fun iv wr => ∃ (k c co : Nat) (rq : Option Nat) (T To : Nat → Option RunT) (l : List RunT), iv = .int .i64 (k : Nat) ∧ k ≤ len1 ∧ c ≤ 300 * k ∧ co ≤ 9 * k ∧ Hid (l.length ≤ k) ∧ Hid (PlAt B B2 B3 n tp ts tg tm op os og om rp c co rq T To l w wr)) (fun iv _ => len1 - (intOf iv).toNat)
    case atStart => exact ⟨0, 0, 0, _, _, _, _, rfl, Nat.zero_le _, Nat.le_refl _, Nat.le_refl _, Nat.le_refl _, HPL⟩
    case round =>
      obtain ⟨k, c, co, rq, T, To, l, rfl, hk, hc, hco, hll, hpl⟩ := hrel
      obtain ⟨wo, rfl⟩ : ∃ wo : World, wo = wr := ⟨_, rfl⟩
      by_cases hlt : k < len1
      · obtain ⟨⟨f1, f2, f3⟩, g, off, rfl, hg, hc0, hc1, hc2⟩ := HI.out k hlt
        have c0 := (hpl.out.bel.cell (p := ⟨g, off + k * 3, none⟩) (by rw [HBE.out]; exact hg)).trans hc0
        have c1 := (hpl.out.bel.cell (p := ⟨g, off + k * 3 + 1, none⟩) (by rw [HBE.out]; exact hg)).trans hc1
        have c2 := (hpl.out.bel.cell (p := ⟨g, off + k * 3 + 2, none⟩) (by rw [HBE.out]; exact hg)).trans hc2
        have hi0 : (0 : Int) ≤ (k : Int) := by omega
        have hi1 : (k : Int) < (len1 : Int) := by omega
        clear hc0 hc1 hc2
        generalize hA0 : wy k = wk at c0 f1
        generalize hA1 : nn k = nk at c1 f2
        generalize hA2 : mk k = mm at c2 f3
        have hnk : nk ≤ 9223372036854775807 := by have := f2; simp [Lit.wf, IntKind.min, IntKind.max, IntKind.signed, IntKind.bits] at this; omega
        have F2 := Lib.hid f2
        have F3 := Lib.hid f3
        have HNK := Lib.hid hnk
        clear hA0 hA1 hA2 f1 f2 f3 hnk
        obtain ⟨R1, hR1⟩ := runIs_exists 9 (usedB To) (atLeast1 1)
        obtain ⟨wx, hwx⟩ : ∃ wx, wx = wo.alloc (.cells #[.int .i64 wk, .int .i64 nk, .int .i64 mm] 36) := ⟨_, rfl⟩
        have hbx : Below wo.heap.size wo wx := by rw [hwx]; exact (Below.refl _ _).alloc (Nat.le_refl _) _
        have HPX := Lib.hid (hpl.out.below hbx)
        have HXC : Hid (wx.heap[wo.heap.size]? = some (.cells #[.int .i64 wk, .int .i64 nk, .int .i64 mm] 36 (0, 0))) := (show _ by rw [hwx]; exact heap_alloc_at _ _)
        have HGC : Hid (B3 ≤ wo.heap.size) := hpl.out.big
        have HRLT : Hid (rp < wo.heap.size ∧ ∀ g, rq = some g → g < wo.heap.size) := hpl.out.ref.lt
        have HOT := Lib.hid (tk_one 1 (k : Nat) R1 wx HPX.out.oth (by omega) (by omega) (WalkArith.wf_i64 (by omega)) hR1)
        have HWX := Lib.hid hwx
        clear hbx hwx hR1
        go_wp2_with fail
        rw [← HWX.out]
        generalize wo.heap.size = gc at HXC HGC HRLT ⊢
        refine HOT.out.mono ?_
        rintro en w4 ⟨rfl, hp4, hk4⟩
        have HP4 := Lib.hid (HPX.out.other hp4 hk4)
        have HX4 : Hid (w4.heap[gc]? = some (.cells #[.int .i64 wk, .int .i64 nk, .int .i64 mm] 36 (0, 0))) := (show _ from hk4.at HXC.out (by have := HPX.out.o1; have := HGC.out; simp; omega))
        have e0 : w4.cell? ⟨gc, 0, none⟩ = some (.int .i64 wk) := cell_of_block HX4.out
        have e1 : w4.cell? ⟨gc, 1, none⟩ = some (.int .i64 nk) := cell_of_block HX4.out
        have e2 : w4.cell? ⟨gc, 2, none⟩ = some (.int .i64 mm) := cell_of_block HX4.out
        have HPD : Hid (PlAt B B2 B3 n tp ts tg tm op os og om rp c (co + 9) rq T _ l w w4.drew) := (show _ from HP4.out.below (Below.refl _ _).drew)
        have HC5 := Lib.hid (fun (w5 : World) (h : Keeps [tg, tm] w4.drew w5) => (show w5.heap[gc]? = some (.cells #[.int .i64 wk, .int .i64 nk, .int .i64 mm] 36 (0, 0)) from
          h.at (show w4.drew.heap[gc]? = _ from HX4.out) (by have := HPX.out.t1; have := HPX.out.le; have := HGC.out; simp; omega)))
        have HRQ : Hid (gc ∉ rp :: rq.toList) := (show gc ∉ rp :: rq.toList by
          have := HPX.out.r1
          have hrl := HRLT.out
          cases hq0 : rq with
          | none => simp; omega
          | some g => have := hrl.2 g hq0; simp; omega)
        have HC6 := Lib.hid (fun (w5 w6 : World) (h : Keeps [tg, tm] w4.drew w5) (h2 : Keeps (rp :: rq.toList) w5 w6) => (show w6.heap[gc]? = some (.cells #[.int .i64 wk, .int .i64 nk, .int .i64 mm] 36 (0, 0)) from
          h2.at (HC5.out w5 h) HRQ.out))
        clear hp4 hk4 hpl c0 c1 c2
        by_cases hw0 : wk = 0
        · subst hw0
          obtain ⟨R, hR⟩ := runIs_exists n (usedB T) (atLeast1 nk)
          have HR := Lib.hid hR
          have HT := Lib.hid (tk_one nk mm R w4.drew HPD.out.tab HNK.out (by omega) F3.out hR)
          have HU := Lib.hid (fun (w5 : World) (h : RefP w5 rp n rq l) => rtk_one nk mm R w5 h HNK.out (by have := hll.out; omega) HPD.out.same hR)
          have HREF := Lib.hid (fun (w5 : World) (h : Keeps [tg, tm] w4.drew w5) => HPD.out.ref.keeps h (by have := HPX.out.t1; have := HPX.out.le; have := HPX.out.r1; simp; omega) (fun g hg => by have := HPX.out.t1; have := HPX.out.le; have := HPX.out.r1.2 g hg; simp; omega))
          clear hR
          go_wp2_with fail
          go_region_held3 (fun w' => w'.cell? ⟨gc, 0, none⟩ = some (.int .i64 0) ∧ w'.cell? ⟨gc, 1, none⟩ = some (.int .i64 nk) ∧ w'.cell? ⟨gc, 2, none⟩ = some (.int .i64 mm))
            (first | go_keep | exact q5 | exact q6)
            (first
              | (go_at_call 27
                 refine HT.out.mono ?_
                 rintro e w5 ⟨rfl, hp5, hk5⟩
                 have q5 := And.intro (cell_of_block (i := 0) (HC5.out w5 hk5)) (And.intro (cell_of_block (i := 1) (HC5.out w5 hk5)) (cell_of_block (i := 2) (HC5.out w5 hk5))))
              | (go_at_call 28
                 refine (HU.out w5 (HREF.out w5 hk5)).mono ?_
                 rintro e w6 ⟨rfl, rq', hp6, hq6, hk6⟩
                 have q6 := And.intro (cell_of_block (i := 0) (HC6.out w5 w6 hk5 hk6)) (And.intro (cell_of_block (i := 1) (HC6.out w5 w6 hk5 hk6)) (cell_of_block (i := 2) (HC6.out w5 w6 hk5 hk6)))))
          have HP6 := Lib.hid (HPD.out.moved hp5 hk5 hp6 hq6 hk6 (same_taken HPD.out.same HR.out (by unfold atLeast1; omega) mm))
          have HL6 : Hid ((takenL l R (atLeast1 nk) mm).length ≤ k + 1) := (show _ from Nat.le_trans (takenL_len _ _ _ _) (by have := hll.out; omega))
          have HX6 := Lib.hid (HC6.out w5 w6 hk5 hk6)
          generalize takenL l R (atLeast1 nk) mm = l' at HP6 HL6
          generalize takenT T R (atLeast1 nk) mm = T' at HP6
          clear hp5 hk5 hp6 hq6 hk6
          have g1 : w6.cell? ⟨gc, 1, none⟩ = some (.int .i64 nk) := cell_of_block HX6.out
          have HOF := Lib.hid (pof_any nk w6 HP6.out.tab F2.out)
          have HRO := Lib.hid (fun (w7 : World) (hb : Below w6.heap.size w6 w7) => rof_any nk w7 (HP6.out.ref.below hb))
          have HFT := Lib.hid (fun (w7 : World) (hb : Below w6.heap.size w6 w7) => pfree_any w7 (HP6.out.tab.below hb))
          have HFR := Lib.hid (fun (w7 : World) (hb : Below w6.heap.size w6 w7) => rfree_any w7 (HP6.out.ref.below hb) HP6.out.same.sum_le)
          have HG7 := Lib.hid (fun (w7 : World) (hb : Below w6.heap.size w6 w7) => (show w7.cell? ⟨gc, 1, none⟩ = some (.int .i64 nk) from (hb.cell (p := ⟨gc, 1, none⟩) (Array.getElem?_eq_some_iff.1 HX6.out).1).trans (cell_of_block HX6.out)))
          have hsame := HP6.out.same.of nk
          have hfree := HP6.out.same.free
          have hfn : freeT n T' ≤ 4096 := by unfold freeT; omega
          rw [hsame] at HRO
          rw [← hfree] at HFR
          generalize freeT n T' = FF at HFT HFR hfn
          generalize ofT T' nk = X at HOF HRO
          obtain ⟨xa, xb, xc⟩ := X
          dsimp only at HOF HRO
          clear hsame hfree
          go_wp2_with fail
          refine HOF.out.mono ?_
          rintro en w7 ⟨rfl, hb7⟩
          have g7 := HG7.out w7 hb7
          have HB7 := Lib.hid hb7
          clear hb7
          go_wp2_with fail
          refine (HRO.out w7 HB7.out).mono ?_
          rintro en w8 ⟨rfl, k8, rfl⟩
          have HB8 : Hid (Below w6.heap.size w6 (w7.drewN k8)) := (show Below w6.heap.size w6 (w7.drewN k8) from below_drewN HB7.out k8)
          go_wp2_with fail
          refine (HFT.out _ HB8.out).mono ?_
          rintro en w9 ⟨rfl, k9, rfl⟩
          have HB9 : Hid (Below w6.heap.size w6 (w7.drewN (k8 + k9))) := (show Below w6.heap.size w6 (w7.drewN (k8 + k9)) from below_drewN HB7.out (k8 + k9))
          go_wp2_with fail
          refine (HFR.out _ HB9.out).mono ?_
          rintro en w10 ⟨rfl, rfl⟩
          have HPZ := Lib.hid (HP6.out.below HB9.out)
          go_wp2
          go_roundw
          case rel => first | exact ⟨k + 1, (c + n), co + 9, _, _, _, _, by go_num, by omega, by omega, by omega, HL6, HPZ⟩ | ((repeat apply Exists.intro); exact ⟨⟨k + 1, (c + n), co + 9, _, _, _, _, by go_num, by omega, by omega, by omega, HL6, HPZ⟩, rfl⟩)
          case measure => simp [intOf]; omega
        · by_cases hw1 : wk = 1
          · subst hw1
            obtain ⟨bg, hbg⟩ : ∃ bg, bg = canGive T nk := ⟨_, rfl⟩
            have HT := Lib.hid (pgive_any nk w4.drew HPD.out.tab F2.out)
            have HU := Lib.hid (fun (w5 : World) (h : RefP w5 rp n rq l) => rgv_one nk w5 h HPD.out.same)
            rw [← hbg] at HT HU
            have HREF := Lib.hid (fun (w5 : World) (h : Keeps [tg, tm] w4.drew w5) => HPD.out.ref.keeps h (by have := HPX.out.t1; have := HPX.out.le; have := HPX.out.r1; simp; omega) (fun g hg => by have := HPX.out.t1; have := HPX.out.le; have := HPX.out.r1.2 g hg; simp; omega))
            clear hbg hw0
            go_wp2_with fail
            go_region_held3 (fun w' => w'.cell? ⟨gc, 0, none⟩ = some (.int .i64 1) ∧ w'.cell? ⟨gc, 1, none⟩ = some (.int .i64 nk) ∧ w'.cell? ⟨gc, 2, none⟩ = some (.int .i64 mm))
              (first | go_keep | exact q5 | exact q6)
              (first
                | (go_at_call 29
                   refine HT.out.mono ?_
                   rintro e w5 ⟨rfl, hp5, hk5⟩
                   have q5 := And.intro (cell_of_block (i := 0) (HC5.out w5 hk5)) (And.intro (cell_of_block (i := 1) (HC5.out w5 hk5)) (cell_of_block (i := 2) (HC5.out w5 hk5))))
                | (go_at_call 30
                   refine (HU.out w5 (HREF.out w5 hk5)).mono ?_
                   rintro e w6 ⟨rfl, rq', l', hp6, hl6, hs6, hq6, hk6⟩
                   have q6 := And.intro (cell_of_block (i := 0) (HC6.out w5 w6 hk5 hk6)) (And.intro (cell_of_block (i := 1) (HC6.out w5 w6 hk5 hk6)) (cell_of_block (i := 2) (HC6.out w5 w6 hk5 hk6)))))
            have HP6 := Lib.hid (HPD.out.moved hp5 hk5 hp6 hq6 hk6 hs6)
            have HL6 : Hid (l'.length ≤ k + 1) := (show l'.length ≤ k + 1 by have := hll.out; omega)
            have HX6 := Lib.hid (HC6.out w5 w6 hk5 hk6)
            generalize givenT T nk = T' at HP6
            clear hp5 hk5 hp6 hq6 hk6 hl6 hs6
            have g1 : w6.cell? ⟨gc, 1, none⟩ = some (.int .i64 nk) := cell_of_block HX6.out
            have HOF := Lib.hid (pof_any nk w6 HP6.out.tab F2.out)
            have HRO := Lib.hid (fun (w7 : World) (hb : Below w6.heap.size w6 w7) => rof_any nk w7 (HP6.out.ref.below hb))
            have HFT := Lib.hid (fun (w7 : World) (hb : Below w6.heap.size w6 w7) => pfree_any w7 (HP6.out.tab.below hb))
            have HFR := Lib.hid (fun (w7 : World) (hb : Below w6.heap.size w6 w7) => rfree_any w7 (HP6.out.ref.below hb) HP6.out.same.sum_le)
            have HG7 := Lib.hid (fun (w7 : World) (hb : Below w6.heap.size w6 w7) => (show w7.cell? ⟨gc, 1, none⟩ = some (.int .i64 nk) from (hb.cell (p := ⟨gc, 1, none⟩) (Array.getElem?_eq_some_iff.1 HX6.out).1).trans (cell_of_block HX6.out)))
            have hsame := HP6.out.same.of nk
            have hfree := HP6.out.same.free
            have hfn : freeT n T' ≤ 4096 := by unfold freeT; omega
            rw [hsame] at HRO
            rw [← hfree] at HFR
            generalize freeT n T' = FF at HFT HFR hfn
            generalize ofT T' nk = X at HOF HRO
            obtain ⟨xa, xb, xc⟩ := X
            dsimp only at HOF HRO
            clear hsame hfree
            go_wp2_with fail
            refine HOF.out.mono ?_
            rintro en w7 ⟨rfl, hb7⟩
            have g7 := HG7.out w7 hb7
            have HB7 := Lib.hid hb7
            clear hb7
            go_wp2_with fail
            refine (HRO.out w7 HB7.out).mono ?_
            rintro en w8 ⟨rfl, k8, rfl⟩
            have HB8 : Hid (Below w6.heap.size w6 (w7.drewN k8)) := (show Below w6.heap.size w6 (w7.drewN k8) from below_drewN HB7.out k8)
            go_wp2_with fail
            refine (HFT.out _ HB8.out).mono ?_
            rintro en w9 ⟨rfl, k9, rfl⟩
            have HB9 : Hid (Below w6.heap.size w6 (w7.drewN (k8 + k9))) := (show Below w6.heap.size w6 (w7.drewN (k8 + k9)) from below_drewN HB7.out (k8 + k9))
            go_wp2_with fail
            refine (HFR.out _ HB9.out).mono ?_
            rintro en w10 ⟨rfl, rfl⟩
            have HPZ := Lib.hid (HP6.out.below HB9.out)
            go_wp2
            go_roundw
            case rel => first | exact ⟨k + 1, (c), co + 9, _, _, _, _, by go_num, by omega, by omega, by omega, HL6, HPZ⟩ | ((repeat apply Exists.intro); exact ⟨⟨k + 1, (c), co + 9, _, _, _, _, by go_num, by omega, by omega, by omega, HL6, HPZ⟩, rfl⟩)
            case measure => simp [intOf]; omega
          · have b0 : (wk == 0) = false := by rw [beq_eq_false_iff_ne]; exact hw0
            have b1 : (wk == 1) = false := by rw [beq_eq_false_iff_ne]; exact hw1
            obtain ⟨w6, rfl⟩ : ∃ w6 : World, w6 = w4 := ⟨_, rfl⟩
            obtain ⟨T', rfl⟩ : ∃ T' : Nat → Option RunT, T' = T := ⟨_, rfl⟩
            obtain ⟨l', rfl⟩ : ∃ l' : List RunT, l' = l := ⟨_, rfl⟩
            obtain ⟨rq', rfl⟩ : ∃ rq' : Option Nat, rq' = rq := ⟨_, rfl⟩
            have HP6 := HP4
            have HX6 := HX4
            have HL6 : Hid (l'.length ≤ k + 1) := (show l'.length ≤ k + 1 by have := hll.out; omega)
            clear hw0 hw1
            have g1 : w6.cell? ⟨gc, 1, none⟩ = some (.int .i64 nk) := cell_of_block HX6.out
            have HOF := Lib.hid (pof_any nk w6 HP6.out.tab F2.out)
            have HRO := Lib.hid (fun (w7 : World) (hb : Below w6.heap.size w6 w7) => rof_any nk w7 (HP6.out.ref.below hb))
            have HFT := Lib.hid (fun (w7 : World) (hb : Below w6.heap.size w6 w7) => pfree_any w7 (HP6.out.tab.below hb))
            have HFR := Lib.hid (fun (w7 : World) (hb : Below w6.heap.size w6 w7) => rfree_any w7 (HP6.out.ref.below hb) HP6.out.same.sum_le)
            have HG7 := Lib.hid (fun (w7 : World) (hb : Below w6.heap.size w6 w7) => (show w7.cell? ⟨gc, 1, none⟩ = some (.int .i64 nk) from (hb.cell (p := ⟨gc, 1, none⟩) (Array.getElem?_eq_some_iff.1 HX6.out).1).trans (cell_of_block HX6.out)))
            have hsame := HP6.out.same.of nk
            have hfree := HP6.out.same.free
            have hfn : freeT n T' ≤ 4096 := by unfold freeT; omega
            rw [hsame] at HRO
            rw [← hfree] at HFR
            generalize freeT n T' = FF at HFT HFR hfn
            generalize ofT T' nk = X at HOF HRO
            obtain ⟨xa, xb, xc⟩ := X
            dsimp only at HOF HRO
            clear hsame hfree
            go_wp2_with fail
            refine HOF.out.mono ?_
            rintro en w7 ⟨rfl, hb7⟩
            have g7 := HG7.out w7 hb7
            have HB7 := Lib.hid hb7
            clear hb7
            go_wp2_with fail
            refine (HRO.out w7 HB7.out).mono ?_
            rintro en w8 ⟨rfl, k8, rfl⟩
            have HB8 : Hid (Below w6.heap.size w6 (w7.drewN k8)) := (show Below w6.heap.size w6 (w7.drewN k8) from below_drewN HB7.out k8)
            go_wp2_with fail
            refine (HFT.out _ HB8.out).mono ?_
            rintro en w9 ⟨rfl, k9, rfl⟩
            have HB9 : Hid (Below w6.heap.size w6 (w7.drewN (k8 + k9))) := (show Below w6.heap.size w6 (w7.drewN (k8 + k9)) from below_drewN HB7.out (k8 + k9))
            go_wp2_with fail
            refine (HFR.out _ HB9.out).mono ?_
            rintro en w10 ⟨rfl, rfl⟩
            have HPZ := Lib.hid (HP6.out.below HB9.out)
            go_wp2
            go_roundw
            case rel => first | exact ⟨k + 1, (c), co + 9, _, _, _, _, by go_num, by omega, by omega, by omega, HL6, HPZ⟩ | ((repeat apply Exists.intro); exact ⟨⟨k + 1, (c), co + 9, _, _, _, _, by go_num, by omega, by omega, by omega, HL6, HPZ⟩, rfl⟩)
            case measure => simp [intOf]; omega
      · obtain rfl : k = len1 := by omega
        have HBF := Lib.hid hpl.out.bel
        clear hlt
        go_wp2
        go_ret
        exact ⟨rfl, by rw [← HBE.out]; exact HBF.out⟩
/-- what is told of the argument 1 -/
def pagesPlay.arg1 (w : World) (a : Option Addr) (len cap : Nat) : Prop := ∃ F : Nat → Nat → Value, Rows w a len cap 3 F ∧ ∀ i, i < len → ((∃ n : Int, (F i) 0 = .int .i64 n ∧ (Lit.int .i64 n).wf = true) ∧ (∃ n : Int, (F i) 1 = .int .i64 n ∧ (Lit.int .i64 n).wf = true) ∧ (∃ n : Int, (F i) 2 = .int .i64 n ∧ (Lit.int .i64 n).wf = true))
theorem pagesPlay.walk (a0 : Int) (a1 : Option Addr) (len1 cap1 : Nat) (w : World) (w0 : (Lit.int .i64 a0).wf = true) (w1 : pagesPlay.arg1 w a1 len1 cap1) :
    Calls Try.prog 5 #[.int .i64 a0, .slice a1 len1 cap1] w fun e w' => e = .returned (.bool true) ∧ Below w.heap.size w w' := by
  obtain ⟨F, hR, hF⟩ := w1
  have hle := hR.le
  have hmx := hR.max
  by_cases ho : 80 < len1 ∨ (300 < a0 ∧ a0 ≤ 4096)
  · exact pagesPlay.out a0 a1 len1 cap1 w ho (by omega)
  obtain ⟨wy, h0⟩ := pick (fun i hi => (hF i hi).1)
  obtain ⟨nn, h1⟩ := pick (fun i hi => (hF i hi).2.1)
  obtain ⟨mk, h2⟩ := pick (fun i hi => (hF i hi).2.2)
  have hI : ∀ i, i < len1 → ((Lit.int .i64 (wy i)).wf = true ∧ (Lit.int .i64 (nn i)).wf = true ∧ (Lit.int .i64 (mk i)).wf = true) ∧ ∃ b off, a1 = some ⟨b, off, none⟩ ∧ b < w.heap.size ∧ w.cell? ⟨b, off + i * 3, none⟩ = some (.int .i64 (wy i)) ∧ w.cell? ⟨b, off + i * 3 + 1, none⟩ = some (.int .i64 (nn i)) ∧ w.cell? ⟨b, off + i * 3 + 2, none⟩ = some (.int .i64 (mk i)) := by
    intro i hi
    refine ⟨⟨(h0 i hi).2, (h1 i hi).2, (h2 i hi).2⟩, ?_⟩
    obtain ⟨b, off, ha, hb, e0⟩ := hR.cell i 0 hi (by omega)
    obtain ⟨b1, off1, ha1, _, e1⟩ := hR.cell i 1 hi (by omega)
    obtain ⟨b2, off2, ha2, _, e2⟩ := hR.cell i 2 hi (by omega)
    rw [ha] at ha1 ha2
    cases ha1
    cases ha2
    rw [(h0 i hi).1] at e0
    rw [(h1 i hi).1] at e1
    rw [(h2 i hi).1] at e2
    exact ⟨b, off, ha, hb, e0, e1, e2⟩
  by_cases hb : a0 ≤ 300
  · exact pagesPlay.inside a0 _ a1 len1 cap1 wy nn mk w (.inl ⟨hb, rfl⟩) (by omega) hI
  · exact pagesPlay.inside a0 _ a1 len1 cap1 wy nn mk w (.inr ⟨by omega, by omega, rfl⟩) (by omega) hI
end Go.Proofs.Ytogifanooleppaa

/- The walk of the law SetPlays: it answers true for every input, where the table of math/bits stands in its variable. -/
import Derived.Test.YtkfgpgllpegleaaDoorSetPlaysOps
import Derived.Test.YtkfgpgllpegleaaDoorOpen
import Derived.Deep.RegionHeld3
namespace Go.Proofs.YtkfgpgllpegleaaDoor
open Go.RowKit
set_option linter.unusedVariables false

theorem below_drewN {B : Nat} {w w' : World} (h : Below B w w') (k : Nat) : Below B w (w'.drewN k) := ⟨h.os, h.tape, h.output, h.size, h.block⟩
theorem setPlays.out (a0 : Int) (a1 : Option Addr) (len1 cap1 : Nat) (w : World) (h : 100 < len1 ∨ (2000 < a0 ∧ a0 ≤ 1000000)) (hl : len1 ≤ 9223372036854775807) :
    Calls Tryd.prog 3 #[.int .i64 a0, .slice a1 len1 cap1] w fun e w' => e = .returned (.bool true) ∧ Below w.heap.size w w' := by
  rcases (by omega : 100 < len1 ∨ (len1 ≤ 100 ∧ 2000 < a0 ∧ a0 ≤ 1000000)) with h | h
  all_goals
    go_enter Tryd.func3, Tryd.ntmps3
    go_wp2_with (go_at_call 5; refine (alive2 _).mono ?_; rintro e w1 ⟨rfl, hb⟩)
    go_ret
    exact ⟨rfl, by assumption⟩
set_option maxRecDepth 100000 in
set_option maxHeartbeats 8000000 in
theorem setPlays.inside (a0 : Int) (n : Nat) (a1 : Option Addr) (len1 cap1 : Nat) (wy nn : Nat → Int) (w : World) (hT : TzTab w) (hn : (a0 ≤ 2000 ∧ n = setN a0) ∨ (1000000 < a0 ∧ n = 1000)) (hlen : len1 ≤ 100)
    (hI : ∀ i, i < len1 → ((Lit.int .i64 (wy i)).wf = true ∧ (Lit.int .i64 (nn i)).wf = true) ∧ ∃ b off, a1 = some ⟨b, off, none⟩ ∧ b < w.heap.size ∧ w.cell? ⟨b, off + i * 2, none⟩ = some (.int .i64 (wy i)) ∧ w.cell? ⟨b, off + i * 2 + 1, none⟩ = some (.int .i64 (nn i))) :
    Calls Tryd.prog 3 #[.int .i64 a0, .slice a1 len1 cap1] w fun e w' => e = .returned (.bool true) ∧ Below w.heap.size w w' := by
  have HI := Lib.hid hI
  have HTZ := Lib.hid hT
  have hn1 : n ≤ 2000 := by rcases hn with ⟨h, rfl⟩ | ⟨h, rfl⟩ <;> (try unfold setN) <;> omega
  have HGN := Lib.hid (fun a w h => new_any a w h)
  have HGR := Lib.hid (fun a w => rsnew_any a w)
  have d1 : decide ((100 : Int) < (len1 : Int)) = false := by rw [decide_eq_false_iff_not]; omega
  obtain ⟨B, hB⟩ : ∃ B, B = w.heap.size := ⟨_, rfl⟩
  have HBE := Lib.hid hB
  clear hB hI hT
  rcases hn with ⟨h1, hnE⟩ | ⟨h1, hnE⟩
  · have d2 : decide ((2000 : Int) < a0) = false := by rw [decide_eq_false_iff_not]; omega
    have d3 : decide ((1000000 : Int) < a0) = false := by rw [decide_eq_false_iff_not]; omega
    have HN1 := Lib.hid (fun w => HGN.out a0 w (by omega))
    have HN2 := Lib.hid (HGR.out a0)
    rw [show setN a0 = n by exact hnE.symm] at HN1 HN2
    have HNE := Lib.hid hnE
    clear hnE h1
    go_enter Tryd.func3, Tryd.ntmps3
    go_wp2_with fail
    refine (alive2 _).mono ?_
    rintro e wa ⟨rfl, hba⟩
    have HBa := Lib.hid hba
    clear hba
    go_wp2_with fail
    refine (HN1.out _).mono ?_
    rintro en w1 ⟨tp, tg, rfl, hp1, hz1, hy1, hb1⟩
    have HP1 := Lib.hid hp1
    have HZ1 := Lib.hid (And.intro hz1 hy1)
    have HB1 := Lib.hid hb1
    clear hp1 hz1 hy1 hb1
    go_wp2_with fail
    refine (HGN.out _ _ (by omega)).mono ?_
    rintro en w2 ⟨op, og, rfl, hp2, hz2, hy2, hb2⟩
    have HP2 := Lib.hid hp2
    have HZ2 := Lib.hid (And.intro hz2 hy2)
    have HB2 := Lib.hid hb2
    clear hp2 hz2 hy2 hb2
    go_wp2_with fail
    refine (HN2.out _).mono ?_
    rintro en w3 ⟨rp, rg, rfl, hp3, hz3, hy3, hb3⟩
    have HPL : Hid (SpAt B w1.heap.size w2.heap.size n tp tg op og rp rg (fun _ => false) (fun _ => false) w w3) := (show SpAt B w1.heap.size w2.heap.size n tp tg op og rp rg (fun _ => false) (fun _ => false) w w3 by
      have l1 := HP1.out.lt
      have l2 := HP2.out.lt
      have s1 := HBa.out.size
      have s2 := HB1.out.size
      have s3 := HB2.out.size
      have s4 := hb3.size
      have z1 := HZ1.out
      have z2 := HZ2.out
      rw [HBE.out]
      refine ⟨(HP1.out.keeps (Keeps.of_below HB2.out (Nat.le_refl _) []) List.not_mem_nil List.not_mem_nil).keeps (Keeps.of_below hb3 (Nat.le_refl _) []) List.not_mem_nil List.not_mem_nil, ?_, hp3, ?_, ⟨⟨by omega, by omega⟩, l1⟩, ⟨z2, l2⟩, ⟨hz3, hy3⟩, ⟨by omega, by omega⟩, s4⟩
      · have := HP2.out.keeps (Keeps.of_below hb3 (Nat.le_refl _) []) List.not_mem_nil List.not_mem_nil
        rwa [show setN 5 = 5 by unfold setN; omega] at this
      · exact ((HBa.out.trans (HB1.out.mono s1)).trans (HB2.out.mono (by omega))).trans (hb3.mono (by omega)))
    generalize w1.heap.size = B2 at HPL
    generalize w2.heap.size = B3 at HPL
    clear hp3 hz3 hy3 hb3
    go_wp2_with fail
    go_loopw [9] (fun iv wr => ∃ (k : Nat) (S So : Nat → Bool), iv = .int .i64 (k : Nat) ∧ k ≤ len1 ∧ Hid (SpAt B B2 B3 n tp tg op og rp rg S So w wr)) (fun iv _ => len1 - (intOf iv).toNat)
    case atStart => exact ⟨0, _, _, rfl, Nat.zero_le _, HPL⟩
    case round =>
      obtain ⟨k, S, So, rfl, hk, hpl⟩ := hrel
      obtain ⟨wo, rfl⟩ : ∃ wo : World, wo = wr := ⟨_, rfl⟩
      by_cases hlt : k < len1
      · obtain ⟨⟨f1, f2⟩, g, off, rfl, hg, hc0, hc1⟩ := HI.out k hlt
        have c0 := (hpl.out.bel.cell (p := ⟨g, off + k * 2, none⟩) (by rw [HBE.out]; exact hg)).trans hc0
        have c1 := (hpl.out.bel.cell (p := ⟨g, off + k * 2 + 1, none⟩) (by rw [HBE.out]; exact hg)).trans hc1
        have hi0 : (0 : Int) ≤ (k : Int) := by omega
        have hi1 : (k : Int) < (len1 : Int) := by omega
        clear hc0 hc1
        generalize hA0 : wy k = wk at c0 f1
        generalize hA1 : nn k = x at c1 f2
        have hx63 : x ≤ 9223372036854775807 := by have := f2; simp [Lit.wf, IntKind.min, IntKind.max, IntKind.signed, IntKind.bits] at this; omega
        have HXK := Lib.hid hx63
        clear hA0 hA1 f1 f2 hx63
        obtain ⟨wx, hwx⟩ : ∃ wx, wx = wo.alloc (.cells #[.int .i64 wk, .int .i64 x] 29) := ⟨_, rfl⟩
        have hbx : Below wo.heap.size wo wx := by rw [hwx]; exact (Below.refl _ _).alloc (Nat.le_refl _) _
        have HPX := Lib.hid (hpl.out.below hbx)
        have HXC : Hid (wx.heap[wo.heap.size]? = some (.cells #[.int .i64 wk, .int .i64 x] 29 (0, 0))) := (show _ by rw [hwx]; exact heap_alloc_at _ _)
        have HGC : Hid (B3 ≤ wo.heap.size) := hpl.out.big
        have HRLT : Hid (rp < wo.heap.size ∧ rg < wo.heap.size) := hpl.out.ref.lt
        have HOT := Lib.hid (fun j => add_any j wx HPX.out.oth)
        have HWX := Lib.hid hwx
        clear hbx hwx
        go_wp2_with fail
        rw [← HWX.out]
        generalize wo.heap.size = gc at HXC HGC HRLT ⊢
        refine (HOT.out _).mono ?_
        rintro en w4 ⟨rfl, hp4, hk4⟩
        have HP4 := Lib.hid (HPX.out.other hp4 hk4)
        have HX4 : Hid (w4.heap[gc]? = some (.cells #[.int .i64 wk, .int .i64 x] 29 (0, 0))) := (show _ from (Keeps.of_grown hk4 (List.mem_singleton_self _)).at HXC.out (by have := HPX.out.o1; have := HGC.out; simp; omega))
        have e0 : w4.cell? ⟨gc, 0, none⟩ = some (.int .i64 wk) := cell_of_block HX4.out
        have e1 : w4.cell? ⟨gc, 1, none⟩ = some (.int .i64 x) := cell_of_block HX4.out
        clear hp4 hk4 hpl c0 c1
        obtain ⟨So4, hSo4⟩ : ∃ So4, Hid (SpAt B B2 B3 n tp tg op og rp rg S So4 w w4) := ⟨_, HP4⟩
        clear HP4
        have HP4 := hSo4
        have HPD : Hid (SpAt B B2 B3 n tp tg op og rp rg S So4 w w4.drew) := (show _ from HP4.out.below (Below.refl _ _).drew)
        by_cases hw0 : wk = 0
        · subst hw0
          have HT := Lib.hid (add_any x w4.drew HPD.out.tab)
          have HU := Lib.hid (fun (w5 : World) (h : RefS w5 rp rg n S) => rsadd_any x w5 h)
          generalize hS6 : (fun j => if (0 ≤ x ∧ x < n) ∧ j = x.toNat then true else S j) = S6 at HT HU
          generalize (mayB n x && !S x.toNat) = bb at HT HU
          clear hS6
          have HC5 := Lib.hid (fun (w5 : World) (h : w4.drew.grownBy w5 (some tg)) => (show w5.heap[gc]? = some (.cells #[.int .i64 0, .int .i64 x] 29 (0, 0)) from
            (Keeps.of_grown h (List.mem_singleton_self _)).at (show w4.drew.heap[gc]? = _ from HX4.out) (by have := HPX.out.t1; have := HPX.out.le; have := HGC.out; simp; omega)))
          have HC6 := Lib.hid (fun (w5 w6 : World) (h : w5.heap[gc]? = some (.cells #[.int .i64 0, .int .i64 x] 29 (0, 0))) (h2 : Keeps [rg] w5 w6) => (show w6.heap[gc]? = some (.cells #[.int .i64 0, .int .i64 x] 29 (0, 0)) from
            h2.at h (by have := HRLT.out; simp; omega)))
          go_wp2_with fail
          go_region_held3 (fun w' => w'.cell? ⟨gc, 0, none⟩ = some (.int .i64 0) ∧ w'.cell? ⟨gc, 1, none⟩ = some (.int .i64 x))
            (first | go_keep | exact ⟨cell_of_block q5, cell_of_block q5⟩ | exact ⟨cell_of_block q6, cell_of_block q6⟩)
            (first
              | (go_at_call 8
                 refine HT.out.mono ?_
                 rintro e w5 ⟨rfl, hd5, hg5⟩
                 have q5 := HC5.out w5 hg5)
              | (go_at_call 9
                 refine (HU.out w5 (HPD.out.refAt hg5)).mono ?_
                 rintro e w6 ⟨rfl, hd6, hk6⟩
                 have q6 := HC6.out w5 w6 q5 hk6))
          have HP6 := Lib.hid (HPD.out.moved hd5 hg5 hd6 hk6)
          have HX6 := Lib.hid (HC6.out w5 w6 q5 hk6)
          clear hd5 hg5 hd6 hk6 q5 q6
          have g1 : w6.cell? ⟨gc, 1, none⟩ = some (.int .i64 x) := cell_of_block HX6.out
          have HPE := Lib.hid (HP6.out.below (Below.refl _ _).drew)
          obtain ⟨RF, hRF⟩ := run_exists n S6 1
          have HH := Lib.hid (has_any x w6.drew HPE.out.tab)
          have HRH := Lib.hid (rshas_any x w6.drew HPE.out.ref)
          have HF := Lib.hid (run_to hRF (free_any w6.drew HPE.out.tab))
          have HRF := Lib.hid (run_to hRF (rsfree_any w6.drew HPE.out.ref))
          have HCT := Lib.hid (count_any w6.drew HPE.out.tab)
          have HRC := Lib.hid (rscount_any w6.drew HPE.out.ref)
          have HLI := Lib.hid (fun (w7 : World) (hb : Below w6.drew.heap.size w6.drew w7) => setList_any w7 (HPE.out.below hb).tab (HTZ.out.below (HPE.out.below hb).bel (by rw [HBE.out]; exact Nat.le_refl _)))
          have HRL := Lib.hid (fun (w7 : World) (hb : Below w6.drew.heap.size w6.drew w7) => rslist_any w7 (HPE.out.below hb).ref)
          have HLL : Hid ((lst S6 n).length ≤ 1048576) := (show (lst S6 n).length ≤ 1048576 by have := lst_le S6 n; omega)
          generalize hasB n S6 x = hb1 at HH HRH
          generalize cnt S6 n = ct at HCT HRC
          generalize lst S6 n = ls at HLI HRL HLL
          have HSI := Lib.hid (fun (w7 : World) (v v2 : Value) (hr : RowS w7 1 v ls.length (intC ls)) (hr2 : RowS w7 1 v2 ls.length (intC ls)) => sameInts_eq ls v v2 w7 hr hr2 HLL.out)
          have HC7 := Lib.hid (fun (w7 : World) (hb : Below w6.drew.heap.size w6.drew w7) => (show w7.cell? ⟨gc, 1, none⟩ = some (.int .i64 x) from (hb.cell (p := ⟨gc, 1, none⟩) (Array.getElem?_eq_some_iff.1 HX6.out).1).trans g1))
          clear hRF
          go_wp2_with fail
          go_region_held3 (fun w' => w'.cell? ⟨gc, 1, none⟩ = some (.int .i64 x))
            (first | go_keep | exact q7 | exact q8 | exact q9 | exact q10)
            (first
              | (go_at_call 14
                 refine HH.out.mono ?_
                 rintro e w7 ⟨rfl, rfl⟩)
              | (go_at_call 15
                 refine HRH.out.mono ?_
                 rintro e w7 ⟨rfl, rfl⟩)
              | (go_at_call 16
                 refine HF.out.mono ?_
                 rintro e w7 ⟨rfl, rfl⟩)
              | (go_at_call 17
                 refine HRF.out.mono ?_
                 rintro e w7 ⟨rfl, rfl⟩)
              | (go_at_call 18
                 refine HCT.out.mono ?_
                 rintro e w7 ⟨rfl, rfl⟩)
              | (go_at_call 19
                 refine HRC.out.mono ?_
                 rintro e w7 ⟨rfl, hb7⟩
                 have q7 := HC7.out w7 hb7)
              | (go_at_call 21
                 refine (HLI.out w7 hb7).mono ?_
                 rintro e w8 ⟨v8, rfl, hr8, hn8, hb8⟩
                 have hb18 := hb7.trans (hb8.mono hb7.size)
                 have q8 := HC7.out w8 hb18)
              | (go_at_call 22
                 refine (HRL.out w8 hb18).mono ?_
                 rintro e w9 ⟨v9, rfl, hr9, hn9, hb9⟩
                 have hb19 := hb18.trans (hb9.mono hb18.size)
                 have q9 := HC7.out w9 hb19)
              | (go_at_call 20
                 refine (HSI.out w9 v8 v9 (hr8.keeps (Keeps.of_below hb9 (Nat.le_refl _) []) fun _ _ => List.not_mem_nil) hr9).mono ?_
                 rintro e w10 ⟨rfl, k10, rfl⟩
                 have q10 := HC7.out (w9.drewN k10) (below_drewN hb19 k10)))
          have HPZ := Lib.hid (HPE.out.below (below_drewN hb19 k10))
          clear hb7 hr8 hn8 hb8 hb18 hr9 hn9 hb9 hb19 q7 q8 q9 q10
          go_wp2
          go_roundw
          case rel => first | exact ⟨k + 1, _, _, by go_num, by omega, HPZ⟩ | ((repeat apply Exists.intro); exact ⟨⟨k + 1, _, _, by go_num, by omega, HPZ⟩, rfl⟩)
          case measure => simp [intOf]; omega
        · by_cases hw1 : wk = 1
          · subst hw1
            have HT := Lib.hid (drop_any x w4.drew HPD.out.tab)
            have HU := Lib.hid (fun (w5 : World) (h : RefS w5 rp rg n S) => rsdrop_any x w5 h)
            generalize hS6 : (fun j => if (0 ≤ x ∧ x < n) ∧ j = x.toNat then false else S j) = S6 at HT HU
            generalize hasB n S x = bb at HT HU
            clear hS6 hw0
            have HC5 := Lib.hid (fun (w5 : World) (h : w4.drew.grownBy w5 (some tg)) => (show w5.heap[gc]? = some (.cells #[.int .i64 1, .int .i64 x] 29 (0, 0)) from
              (Keeps.of_grown h (List.mem_singleton_self _)).at (show w4.drew.heap[gc]? = _ from HX4.out) (by have := HPX.out.t1; have := HPX.out.le; have := HGC.out; simp; omega)))
            have HC6 := Lib.hid (fun (w5 w6 : World) (h : w5.heap[gc]? = some (.cells #[.int .i64 1, .int .i64 x] 29 (0, 0))) (h2 : Keeps [rg] w5 w6) => (show w6.heap[gc]? = some (.cells #[.int .i64 1, .int .i64 x] 29 (0, 0)) from
              h2.at h (by have := HRLT.out; simp; omega)))
            go_wp2_with fail
            go_region_held3 (fun w' => w'.cell? ⟨gc, 0, none⟩ = some (.int .i64 1) ∧ w'.cell? ⟨gc, 1, none⟩ = some (.int .i64 x))
              (first | go_keep | exact ⟨cell_of_block q5, cell_of_block q5⟩ | exact ⟨cell_of_block q6, cell_of_block q6⟩)
              (first
                | (go_at_call 10
                   refine HT.out.mono ?_
                   rintro e w5 ⟨rfl, hd5, hg5⟩
                   have q5 := HC5.out w5 hg5)
                | (go_at_call 11
                   refine (HU.out w5 (HPD.out.refAt hg5)).mono ?_
                   rintro e w6 ⟨rfl, hd6, hk6⟩
                   have q6 := HC6.out w5 w6 q5 hk6))
            have HP6 := Lib.hid (HPD.out.moved hd5 hg5 hd6 hk6)
            have HX6 := Lib.hid (HC6.out w5 w6 q5 hk6)
            clear hd5 hg5 hd6 hk6 q5 q6
            have g1 : w6.cell? ⟨gc, 1, none⟩ = some (.int .i64 x) := cell_of_block HX6.out
            have HPE := Lib.hid (HP6.out.below (Below.refl _ _).drew)
            obtain ⟨RF, hRF⟩ := run_exists n S6 1
            have HH := Lib.hid (has_any x w6.drew HPE.out.tab)
            have HRH := Lib.hid (rshas_any x w6.drew HPE.out.ref)
            have HF := Lib.hid (run_to hRF (free_any w6.drew HPE.out.tab))
            have HRF := Lib.hid (run_to hRF (rsfree_any w6.drew HPE.out.ref))
            have HCT := Lib.hid (count_any w6.drew HPE.out.tab)
            have HRC := Lib.hid (rscount_any w6.drew HPE.out.ref)
            have HLI := Lib.hid (fun (w7 : World) (hb : Below w6.drew.heap.size w6.drew w7) => setList_any w7 (HPE.out.below hb).tab (HTZ.out.below (HPE.out.below hb).bel (by rw [HBE.out]; exact Nat.le_refl _)))
            have HRL := Lib.hid (fun (w7 : World) (hb : Below w6.drew.heap.size w6.drew w7) => rslist_any w7 (HPE.out.below hb).ref)
            have HLL : Hid ((lst S6 n).length ≤ 1048576) := (show (lst S6 n).length ≤ 1048576 by have := lst_le S6 n; omega)
            generalize hasB n S6 x = hb1 at HH HRH
            generalize cnt S6 n = ct at HCT HRC
            generalize lst S6 n = ls at HLI HRL HLL
            have HSI := Lib.hid (fun (w7 : World) (v v2 : Value) (hr : RowS w7 1 v ls.length (intC ls)) (hr2 : RowS w7 1 v2 ls.length (intC ls)) => sameInts_eq ls v v2 w7 hr hr2 HLL.out)
            have HC7 := Lib.hid (fun (w7 : World) (hb : Below w6.drew.heap.size w6.drew w7) => (show w7.cell? ⟨gc, 1, none⟩ = some (.int .i64 x) from (hb.cell (p := ⟨gc, 1, none⟩) (Array.getElem?_eq_some_iff.1 HX6.out).1).trans g1))
            clear hRF
            go_wp2_with fail
            go_region_held3 (fun w' => w'.cell? ⟨gc, 1, none⟩ = some (.int .i64 x))
              (first | go_keep | exact q7 | exact q8 | exact q9 | exact q10)
              (first
                | (go_at_call 14
                   refine HH.out.mono ?_
                   rintro e w7 ⟨rfl, rfl⟩)
                | (go_at_call 15
                   refine HRH.out.mono ?_
                   rintro e w7 ⟨rfl, rfl⟩)
                | (go_at_call 16
                   refine HF.out.mono ?_
                   rintro e w7 ⟨rfl, rfl⟩)
                | (go_at_call 17
                   refine HRF.out.mono ?_
                   rintro e w7 ⟨rfl, rfl⟩)
                | (go_at_call 18
                   refine HCT.out.mono ?_
                   rintro e w7 ⟨rfl, rfl⟩)
                | (go_at_call 19
                   refine HRC.out.mono ?_
                   rintro e w7 ⟨rfl, hb7⟩
                   have q7 := HC7.out w7 hb7)
                | (go_at_call 21
                   refine (HLI.out w7 hb7).mono ?_
                   rintro e w8 ⟨v8, rfl, hr8, hn8, hb8⟩
                   have hb18 := hb7.trans (hb8.mono hb7.size)
                   have q8 := HC7.out w8 hb18)
                | (go_at_call 22
                   refine (HRL.out w8 hb18).mono ?_
                   rintro e w9 ⟨v9, rfl, hr9, hn9, hb9⟩
                   have hb19 := hb18.trans (hb9.mono hb18.size)
                   have q9 := HC7.out w9 hb19)
                | (go_at_call 20
                   refine (HSI.out w9 v8 v9 (hr8.keeps (Keeps.of_below hb9 (Nat.le_refl _) []) fun _ _ => List.not_mem_nil) hr9).mono ?_
                   rintro e w10 ⟨rfl, k10, rfl⟩
                   have q10 := HC7.out (w9.drewN k10) (below_drewN hb19 k10)))
            have HPZ := Lib.hid (HPE.out.below (below_drewN hb19 k10))
            clear hb7 hr8 hn8 hb8 hb18 hr9 hn9 hb9 hb19 q7 q8 q9 q10
            go_wp2
            go_roundw
            case rel => first | exact ⟨k + 1, _, _, by go_num, by omega, HPZ⟩ | ((repeat apply Exists.intro); exact ⟨⟨k + 1, _, _, by go_num, by omega, HPZ⟩, rfl⟩)
            case measure => simp [intOf]; omega
          · by_cases hw2 : wk = 2
            · subst hw2
              obtain ⟨R, hR⟩ := run_exists n S (atLeast1 x)
              have HT := Lib.hid (run_to hR (setRun_any x w4.drew HPD.out.tab HXK.out))
              have HU := Lib.hid (run_to hR (rsrun_any x w4.drew HPD.out.ref HXK.out))
              clear hR hw0 hw1
              go_wp2_with fail
              go_region_held3 (fun w' => w'.cell? ⟨gc, 0, none⟩ = some (.int .i64 2) ∧ w'.cell? ⟨gc, 1, none⟩ = some (.int .i64 x))
                (go_keep)
                (first
                  | (go_at_call 12
                     refine HT.out.mono ?_
                     rintro e w5 ⟨rfl, rfl⟩)
                  | (go_at_call 13
                     refine HU.out.mono ?_
                     rintro e w5 ⟨rfl, rfl⟩))
              obtain ⟨w6, hw6⟩ : ∃ w6 : World, w6 = w4.drew := ⟨_, rfl⟩
              obtain ⟨S6, hS6⟩ : ∃ S6 : Nat → Bool, S6 = S := ⟨_, rfl⟩
              rw [← hw6, ← hS6] at HPD
              have HP6 := HPD
              have HX6 : Hid (w6.heap[gc]? = some (.cells #[.int .i64 2, .int .i64 x] 29 (0, 0))) := (show w6.heap[gc]? = _ by rw [hw6]; exact HX4.out)
              rw [← hw6]
              clear HPD hw6 hS6
              have g1 : w6.cell? ⟨gc, 1, none⟩ = some (.int .i64 x) := cell_of_block HX6.out
              have HPE := Lib.hid (HP6.out.below (Below.refl _ _).drew)
              obtain ⟨RF, hRF⟩ := run_exists n S6 1
              have HH := Lib.hid (has_any x w6.drew HPE.out.tab)
              have HRH := Lib.hid (rshas_any x w6.drew HPE.out.ref)
              have HF := Lib.hid (run_to hRF (free_any w6.drew HPE.out.tab))
              have HRF := Lib.hid (run_to hRF (rsfree_any w6.drew HPE.out.ref))
              have HCT := Lib.hid (count_any w6.drew HPE.out.tab)
              have HRC := Lib.hid (rscount_any w6.drew HPE.out.ref)
              have HLI := Lib.hid (fun (w7 : World) (hb : Below w6.drew.heap.size w6.drew w7) => setList_any w7 (HPE.out.below hb).tab (HTZ.out.below (HPE.out.below hb).bel (by rw [HBE.out]; exact Nat.le_refl _)))
              have HRL := Lib.hid (fun (w7 : World) (hb : Below w6.drew.heap.size w6.drew w7) => rslist_any w7 (HPE.out.below hb).ref)
              have HLL : Hid ((lst S6 n).length ≤ 1048576) := (show (lst S6 n).length ≤ 1048576 by have := lst_le S6 n; omega)
              generalize hasB n S6 x = hb1 at HH HRH
              generalize cnt S6 n = ct at HCT HRC
              generalize lst S6 n = ls at HLI HRL HLL
              have HSI := Lib.hid (fun (w7 : World) (v v2 : Value) (hr : RowS w7 1 v ls.length (intC ls)) (hr2 : RowS w7 1 v2 ls.length (intC ls)) => sameInts_eq ls v v2 w7 hr hr2 HLL.out)
              have HC7 := Lib.hid (fun (w7 : World) (hb : Below w6.drew.heap.size w6.drew w7) => (show w7.cell? ⟨gc, 1, none⟩ = some (.int .i64 x) from (hb.cell (p := ⟨gc, 1, none⟩) (Array.getElem?_eq_some_iff.1 HX6.out).1).trans g1))
              clear hRF
              go_wp2_with fail
              go_region_held3 (fun w' => w'.cell? ⟨gc, 1, none⟩ = some (.int .i64 x))
                (first | go_keep | exact q7 | exact q8 | exact q9 | exact q10)
                (first
                  | (go_at_call 14
                     refine HH.out.mono ?_
                     rintro e w7 ⟨rfl, rfl⟩)
                  | (go_at_call 15
                     refine HRH.out.mono ?_
                     rintro e w7 ⟨rfl, rfl⟩)
                  | (go_at_call 16
                     refine HF.out.mono ?_
                     rintro e w7 ⟨rfl, rfl⟩)
                  | (go_at_call 17
                     refine HRF.out.mono ?_
                     rintro e w7 ⟨rfl, rfl⟩)
                  | (go_at_call 18
                     refine HCT.out.mono ?_
                     rintro e w7 ⟨rfl, rfl⟩)
                  | (go_at_call 19
                     refine HRC.out.mono ?_
                     rintro e w7 ⟨rfl, hb7⟩
                     have q7 := HC7.out w7 hb7)
                  | (go_at_call 21
                     refine (HLI.out w7 hb7).mono ?_
                     rintro e w8 ⟨v8, rfl, hr8, hn8, hb8⟩
                     have hb18 := hb7.trans (hb8.mono hb7.size)
                     have q8 := HC7.out w8 hb18)
                  | (go_at_call 22
                     refine (HRL.out w8 hb18).mono ?_
                     rintro e w9 ⟨v9, rfl, hr9, hn9, hb9⟩
                     have hb19 := hb18.trans (hb9.mono hb18.size)
                     have q9 := HC7.out w9 hb19)
                  | (go_at_call 20
                     refine (HSI.out w9 v8 v9 (hr8.keeps (Keeps.of_below hb9 (Nat.le_refl _) []) fun _ _ => List.not_mem_nil) hr9).mono ?_
                     rintro e w10 ⟨rfl, k10, rfl⟩
                     have q10 := HC7.out (w9.drewN k10) (below_drewN hb19 k10)))
              have HPZ := Lib.hid (HPE.out.below (below_drewN hb19 k10))
              clear hb7 hr8 hn8 hb8 hb18 hr9 hn9 hb9 hb19 q7 q8 q9 q10
              go_wp2
              go_roundw
              case rel => first | exact ⟨k + 1, _, _, by go_num, by omega, HPZ⟩ | ((repeat apply Exists.intro); exact ⟨⟨k + 1, _, _, by go_num, by omega, HPZ⟩, rfl⟩)
              case measure => simp [intOf]; omega
            · have b0 : (wk == 0) = false := by rw [beq_eq_false_iff_ne]; exact hw0
              have b1 : (wk == 1) = false := by rw [beq_eq_false_iff_ne]; exact hw1
              have b2 : (wk == 2) = false := by rw [beq_eq_false_iff_ne]; exact hw2
              obtain ⟨w6, rfl⟩ : ∃ w6 : World, w6 = w4 := ⟨_, rfl⟩
              obtain ⟨S6, rfl⟩ : ∃ S6 : Nat → Bool, S6 = S := ⟨_, rfl⟩
              have HP6 := HP4
              have HX6 := HX4
              clear hw0 hw1 hw2
              have g1 : w6.cell? ⟨gc, 1, none⟩ = some (.int .i64 x) := cell_of_block HX6.out
              have HPE := Lib.hid (HP6.out.below (Below.refl _ _).drew)
              obtain ⟨RF, hRF⟩ := run_exists n S6 1
              have HH := Lib.hid (has_any x w6.drew HPE.out.tab)
              have HRH := Lib.hid (rshas_any x w6.drew HPE.out.ref)
              have HF := Lib.hid (run_to hRF (free_any w6.drew HPE.out.tab))
              have HRF := Lib.hid (run_to hRF (rsfree_any w6.drew HPE.out.ref))
              have HCT := Lib.hid (count_any w6.drew HPE.out.tab)
              have HRC := Lib.hid (rscount_any w6.drew HPE.out.ref)
              have HLI := Lib.hid (fun (w7 : World) (hb : Below w6.drew.heap.size w6.drew w7) => setList_any w7 (HPE.out.below hb).tab (HTZ.out.below (HPE.out.below hb).bel (by rw [HBE.out]; exact Nat.le_refl _)))
              have HRL := Lib.hid (fun (w7 : World) (hb : Below w6.drew.heap.size w6.drew w7) => rslist_any w7 (HPE.out.below hb).ref)
              have HLL : Hid ((lst S6 n).length ≤ 1048576) := (show (lst S6 n).length ≤ 1048576 by have := lst_le S6 n; omega)
              generalize hasB n S6 x = hb1 at HH HRH
              generalize cnt S6 n = ct at HCT HRC
              generalize lst S6 n = ls at HLI HRL HLL
              have HSI := Lib.hid (fun (w7 : World) (v v2 : Value) (hr : RowS w7 1 v ls.length (intC ls)) (hr2 : RowS w7 1 v2 ls.length (intC ls)) => sameInts_eq ls v v2 w7 hr hr2 HLL.out)
              have HC7 := Lib.hid (fun (w7 : World) (hb : Below w6.drew.heap.size w6.drew w7) => (show w7.cell? ⟨gc, 1, none⟩ = some (.int .i64 x) from (hb.cell (p := ⟨gc, 1, none⟩) (Array.getElem?_eq_some_iff.1 HX6.out).1).trans g1))
              clear hRF
              go_wp2_with fail
              go_region_held3 (fun w' => w'.cell? ⟨gc, 1, none⟩ = some (.int .i64 x))
                (first | go_keep | exact q7 | exact q8 | exact q9 | exact q10)
                (first
                  | (go_at_call 14
                     refine HH.out.mono ?_
                     rintro e w7 ⟨rfl, rfl⟩)
                  | (go_at_call 15
                     refine HRH.out.mono ?_
                     rintro e w7 ⟨rfl, rfl⟩)
                  | (go_at_call 16
                     refine HF.out.mono ?_
                     rintro e w7 ⟨rfl, rfl⟩)
                  | (go_at_call 17
                     refine HRF.out.mono ?_
                     rintro e w7 ⟨rfl, rfl⟩)
                  | (go_at_call 18
                     refine HCT.out.mono ?_
                     rintro e w7 ⟨rfl, rfl⟩)
                  | (go_at_call 19
                     refine HRC.out.mono ?_
                     rintro e w7 ⟨rfl, hb7⟩
                     have q7 := HC7.out w7 hb7)
                  | (go_at_call 21
                     refine (HLI.out w7 hb7).mono ?_
                     rintro e w8 ⟨v8, rfl, hr8, hn8, hb8⟩
                     have hb18 := hb7.trans (hb8.mono hb7.size)
                     have q8 := HC7.out w8 hb18)
                  | (go_at_call 22
                     refine (HRL.out w8 hb18).mono ?_
                     rintro e w9 ⟨v9, rfl, hr9, hn9, hb9⟩
                     have hb19 := hb18.trans (hb9.mono hb18.size)
                     have q9 := HC7.out w9 hb19)
                  | (go_at_call 20
                     refine (HSI.out w9 v8 v9 (hr8.keeps (Keeps.of_below hb9 (Nat.le_refl _) []) fun _ _ => List.not_mem_nil) hr9).mono ?_
                     rintro e w10 ⟨rfl, k10, rfl⟩
                     have q10 := HC7.out (w9.drewN k10) (below_drewN hb19 k10)))
              have HPZ := Lib.hid (HPE.out.below (below_drewN hb19 k10))
              clear hb7 hr8 hn8 hb8 hb18 hr9 hn9 hb9 hb19 q7 q8 q9 q10
              go_wp2
              go_roundw
              case rel => first | exact ⟨k + 1, _, _, by go_num, by omega, HPZ⟩ | ((repeat apply Exists.intro); exact ⟨⟨k + 1, _, _, by go_num, by omega, HPZ⟩, rfl⟩)
              case measure => simp [intOf]; omega
      · obtain rfl : k = len1 := by omega
        have HBF := Lib.hid hpl.out.bel
        clear hlt
        go_wp2
        go_ret
        exact ⟨rfl, by rw [← HBE.out]; exact HBF.out⟩
  · have d2 : decide ((2000 : Int) < a0) = true := by rw [decide_eq_true_iff]; omega
    have d3 : decide ((1000000 : Int) < a0) = true := by rw [decide_eq_true_iff]; omega
    have d4 : decide (a0 ≤ 1000000) = false := by rw [decide_eq_false_iff_not]; omega
    have HN1 := Lib.hid (fun w => HGN.out 1000 w (by omega))
    have HN2 := Lib.hid (HGR.out 1000)
    rw [show setN 1000 = n by rw [hnE]; unfold setN; omega] at HN1 HN2
    have HNE := Lib.hid hnE
    clear hnE h1
    go_enter Tryd.func3, Tryd.ntmps3
    go_wp2_with fail
    refine (alive2 _).mono ?_
    rintro e wa ⟨rfl, hba⟩
    have HBa := Lib.hid hba
    clear hba
    go_wp2_with fail
    refine (HN1.out _).mono ?_
    rintro en w1 ⟨tp, tg, rfl, hp1, hz1, hy1, hb1⟩
    have HP1 := Lib.hid hp1
    have HZ1 := Lib.hid (And.intro hz1 hy1)
    have HB1 := Lib.hid hb1
    clear hp1 hz1 hy1 hb1
    go_wp2_with fail
    refine (HGN.out _ _ (by omega)).mono ?_
    rintro en w2 ⟨op, og, rfl, hp2, hz2, hy2, hb2⟩
    have HP2 := Lib.hid hp2
    have HZ2 := Lib.hid (And.intro hz2 hy2)
    have HB2 := Lib.hid hb2
    clear hp2 hz2 hy2 hb2
    go_wp2_with fail
    refine (HN2.out _).mono ?_
    rintro en w3 ⟨rp, rg, rfl, hp3, hz3, hy3, hb3⟩
    have HPL : Hid (SpAt B w1.heap.size w2.heap.size n tp tg op og rp rg (fun _ => false) (fun _ => false) w w3) := (show SpAt B w1.heap.size w2.heap.size n tp tg op og rp rg (fun _ => false) (fun _ => false) w w3 by
      have l1 := HP1.out.lt
      have l2 := HP2.out.lt
      have s1 := HBa.out.size
      have s2 := HB1.out.size
      have s3 := HB2.out.size
      have s4 := hb3.size
      have z1 := HZ1.out
      have z2 := HZ2.out
      rw [HBE.out]
      refine ⟨(HP1.out.keeps (Keeps.of_below HB2.out (Nat.le_refl _) []) List.not_mem_nil List.not_mem_nil).keeps (Keeps.of_below hb3 (Nat.le_refl _) []) List.not_mem_nil List.not_mem_nil, ?_, hp3, ?_, ⟨⟨by omega, by omega⟩, l1⟩, ⟨z2, l2⟩, ⟨hz3, hy3⟩, ⟨by omega, by omega⟩, s4⟩
      · have := HP2.out.keeps (Keeps.of_below hb3 (Nat.le_refl _) []) List.not_mem_nil List.not_mem_nil
        rwa [show setN 5 = 5 by unfold setN; omega] at this
      · exact ((HBa.out.trans (HB1.out.mono s1)).trans (HB2.out.mono (by omega))).trans (hb3.mono (by omega)))
    generalize w1.heap.size = B2 at HPL
    generalize w2.heap.size = B3 at HPL
    clear hp3 hz3 hy3 hb3
    go_wp2_with fail
    go_loopw [9] (fun iv wr => ∃ (k : Nat) (S So : Nat → Bool), iv = .int .i64 (k : Nat) ∧ k ≤ len1 ∧ Hid (SpAt B B2 B3 n tp tg op og rp rg S So w wr)) (fun iv _ => len1 - (intOf iv).toNat)
    case atStart => exact ⟨0, _, _, rfl, Nat.zero_le _, HPL⟩
    case round =>
      obtain ⟨k, S, So, rfl, hk, hpl⟩ := hrel
      obtain ⟨wo, rfl⟩ : ∃ wo : World, wo = wr := ⟨_, rfl⟩
      by_cases hlt : k < len1
      · obtain ⟨⟨f1, f2⟩, g, off, rfl, hg, hc0, hc1⟩ := HI.out k hlt
        have c0 := (hpl.out.bel.cell (p := ⟨g, off + k * 2, none⟩) (by rw [HBE.out]; exact hg)).trans hc0
        have c1 := (hpl.out.bel.cell (p := ⟨g, off + k * 2 + 1, none⟩) (by rw [HBE.out]; exact hg)).trans hc1
        have hi0 : (0 : Int) ≤ (k : Int) := by omega
        have hi1 : (k : Int) < (len1 : Int) := by omega
        clear hc0 hc1
        generalize hA0 : wy k = wk at c0 f1
        generalize hA1 : nn k = x at c1 f2
        have hx63 : x ≤ 9223372036854775807 := by have := f2; simp [Lit.wf, IntKind.min, IntKind.max, IntKind.signed, IntKind.bits] at this; omega
        have HXK := Lib.hid hx63
        clear hA0 hA1 f1 f2 hx63
        obtain ⟨wx, hwx⟩ : ∃ wx, wx = wo.alloc (.cells #[.int .i64 wk, .int .i64 x] 29) := ⟨_, rfl⟩
        have hbx : Below wo.heap.size wo wx := by rw [hwx]; exact (Below.refl _ _).alloc (Nat.le_refl _) _
        have HPX := Lib.hid (hpl.out.below hbx)
        have HXC : Hid (wx.heap[wo.heap.size]? = some (.cells #[.int .i64 wk, .int .i64 x] 29 (0, 0))) := (show _ by rw [hwx]; exact heap_alloc_at _ _)
        have HGC : Hid (B3 ≤ wo.heap.size) := hpl.out.big
        have HRLT : Hid (rp < wo.heap.size ∧ rg < wo.heap.size) := hpl.out.ref.lt
        have HOT := Lib.hid (fun j => add_any j wx HPX.out.oth)
        have HWX := Lib.hid hwx
        clear hbx hwx
        go_wp2_with fail
        rw [← HWX.out]
        generalize wo.heap.size = gc at HXC HGC HRLT ⊢
        refine (HOT.out _).mono ?_
        rintro en w4 ⟨rfl, hp4, hk4⟩
        have HP4 := Lib.hid (HPX.out.other hp4 hk4)
        have HX4 : Hid (w4.heap[gc]? = some (.cells #[.int .i64 wk, .int .i64 x] 29 (0, 0))) := (show _ from (Keeps.of_grown hk4 (List.mem_singleton_self _)).at HXC.out (by have := HPX.out.o1; have := HGC.out; simp; omega))
        have e0 : w4.cell? ⟨gc, 0, none⟩ = some (.int .i64 wk) := cell_of_block HX4.out
        have e1 : w4.cell? ⟨gc, 1, none⟩ = some (.int .i64 x) := cell_of_block HX4.out
        clear hp4 hk4 hpl c0 c1
        obtain ⟨So4, hSo4⟩ : ∃ So4, Hid (SpAt B B2 B3 n tp tg op og rp rg S So4 w w4) := ⟨_, HP4⟩
        clear HP4
        have HP4 := hSo4
        have HPD : Hid (SpAt B B2 B3 n tp tg op og rp rg S So4 w w4.drew) := (show _ from HP4.out.below (Below.refl _ _).drew)
        by_cases hw0 : wk = 0
        · subst hw0
          have HT := Lib.hid (add_any x w4.drew HPD.out.tab)
          have HU := Lib.hid (fun (w5 : World) (h : RefS w5 rp rg n S) => rsadd_any x w5 h)
          generalize hS6 : (fun j => if (0 ≤ x ∧ x < n) ∧ j = x.toNat then true else S j) = S6 at HT HU
          generalize (mayB n x && !S x.toNat) = bb at HT HU
          clear hS6
          have HC5 := Lib.hid (fun (w5 : World) (h : w4.drew.grownBy w5 (some tg)) => (show w5.heap[gc]? = some (.cells #[.int .i64 0, .int .i64 x] 29 (0, 0)) from
            (Keeps.of_grown h (List.mem_singleton_self _)).at (show w4.drew.heap[gc]? = _ from HX4.out) (by have := HPX.out.t1; have := HPX.out.le; have := HGC.out; simp; omega)))
          have HC6 := Lib.hid (fun (w5 w6 : World) (h : w5.heap[gc]? = some (.cells #[.int .i64 0, .int .i64 x] 29 (0, 0))) (h2 : Keeps [rg] w5 w6) => (show w6.heap[gc]? = some (.cells #[.int .i64 0, .int .i64 x] 29 (0, 0)) from
            h2.at h (by have := HRLT.out; simp; omega)))
          go_wp2_with fail
          go_region_held3 (fun w' => w'.cell? ⟨gc, 0, none⟩ = some (.int .i64 0) ∧ w'.cell? ⟨gc, 1, none⟩ = some (.int .i64 x))
            (first | go_keep | exact ⟨cell_of_block q5, cell_of_block q5⟩ | exact ⟨cell_of_block q6, cell_of_block q6⟩)
            (first
              | (go_at_call 8
                 refine HT.out.mono ?_
                 rintro e w5 ⟨rfl, hd5, hg5⟩
                 have q5 := HC5.out w5 hg5)
              | (go_at_call 9
                 refine (HU.out w5 (HPD.out.refAt hg5)).mono ?_
                 rintro e w6 ⟨rfl, hd6, hk6⟩
                 have q6 := HC6.out w5 w6 q5 hk6))
          have HP6 := Lib.hid (HPD.out.moved hd5 hg5 hd6 hk6)
          have HX6 := Lib.hid (HC6.out w5 w6 q5 hk6)
          clear hd5 hg5 hd6 hk6 q5 q6
          have g1 : w6.cell? ⟨gc, 1, none⟩ = some (.int .i64 x) := cell_of_block HX6.out
          have HPE := Lib.hid (HP6.out.below (Below.refl _ _).drew)
          obtain ⟨RF, hRF⟩ := run_exists n S6 1
          have HH := Lib.hid (has_any x w6.drew HPE.out.tab)
          have HRH := Lib.hid (rshas_any x w6.drew HPE.out.ref)
          have HF := Lib.hid (run_to hRF (free_any w6.drew HPE.out.tab))
          have HRF := Lib.hid (run_to hRF (rsfree_any w6.drew HPE.out.ref))
          have HCT := Lib.hid (count_any w6.drew HPE.out.tab)
          have HRC := Lib.hid (rscount_any w6.drew HPE.out.ref)
          have HLI := Lib.hid (fun (w7 : World) (hb : Below w6.drew.heap.size w6.drew w7) => setList_any w7 (HPE.out.below hb).tab (HTZ.out.below (HPE.out.below hb).bel (by rw [HBE.out]; exact Nat.le_refl _)))
          have HRL := Lib.hid (fun (w7 : World) (hb : Below w6.drew.heap.size w6.drew w7) => rslist_any w7 (HPE.out.below hb).ref)
          have HLL : Hid ((lst S6 n).length ≤ 1048576) := (show (lst S6 n).length ≤ 1048576 by have := lst_le S6 n; omega)
          generalize hasB n S6 x = hb1 at HH HRH
          generalize cnt S6 n = ct at HCT HRC
          generalize lst S6 n = ls at HLI HRL HLL
          have HSI := Lib.hid (fun (w7 : World) (v v2 : Value) (hr : RowS w7 1 v ls.length (intC ls)) (hr2 : RowS w7 1 v2 ls.length (intC ls)) => sameInts_eq ls v v2 w7 hr hr2 HLL.out)
          have HC7 := Lib.hid (fun (w7 : World) (hb : Below w6.drew.heap.size w6.drew w7) => (show w7.cell? ⟨gc, 1, none⟩ = some (.int .i64 x) from (hb.cell (p := ⟨gc, 1, none⟩) (Array.getElem?_eq_some_iff.1 HX6.out).1).trans g1))
          clear hRF
          go_wp2_with fail
          go_region_held3 (fun w' => w'.cell? ⟨gc, 1, none⟩ = some (.int .i64 x))
            (first | go_keep | exact q7 | exact q8 | exact q9 | exact q10)
            (first
              | (go_at_call 14
                 refine HH.out.mono ?_
                 rintro e w7 ⟨rfl, rfl⟩)
              | (go_at_call 15
                 refine HRH.out.mono ?_
                 rintro e w7 ⟨rfl, rfl⟩)
              | (go_at_call 16
                 refine HF.out.mono ?_
                 rintro e w7 ⟨rfl, rfl⟩)
              | (go_at_call 17
                 refine HRF.out.mono ?_
                 rintro e w7 ⟨rfl, rfl⟩)
              | (go_at_call 18
                 refine HCT.out.mono ?_
                 rintro e w7 ⟨rfl, rfl⟩)
              | (go_at_call 19
                 refine HRC.out.mono ?_
                 rintro e w7 ⟨rfl, hb7⟩
                 have q7 := HC7.out w7 hb7)
              | (go_at_call 21
                 refine (HLI.out w7 hb7).mono ?_
                 rintro e w8 ⟨v8, rfl, hr8, hn8, hb8⟩
                 have hb18 := hb7.trans (hb8.mono hb7.size)
                 have q8 := HC7.out w8 hb18)
              | (go_at_call 22
                 refine (HRL.out w8 hb18).mono ?_
                 rintro e w9 ⟨v9, rfl, hr9, hn9, hb9⟩
                 have hb19 := hb18.trans (hb9.mono hb18.size)
                 have q9 := HC7.out w9 hb19)
              | (go_at_call 20
                 refine (HSI.out w9 v8 v9 (hr8.keeps (Keeps.of_below hb9 (Nat.le_refl _) []) fun _ _ => List.not_mem_nil) hr9).mono ?_
                 rintro e w10 ⟨rfl, k10, rfl⟩
                 have q10 := HC7.out (w9.drewN k10) (below_drewN hb19 k10)))
          have HPZ := Lib.hid (HPE.out.below (below_drewN hb19 k10))
          clear hb7 hr8 hn8 hb8 hb18 hr9 hn9 hb9 hb19 q7 q8 q9 q10
          go_wp2
          go_roundw
          case rel => first | exact ⟨k + 1, _, _, by go_num, by omega, HPZ⟩ | ((repeat apply Exists.intro); exact ⟨⟨k + 1, _, _, by go_num, by omega, HPZ⟩, rfl⟩)
          case measure => simp [intOf]; omega
        · by_cases hw1 : wk = 1
          · subst hw1
            have HT := Lib.hid (drop_any x w4.drew HPD.out.tab)
            have HU := Lib.hid (fun (w5 : World) (h : RefS w5 rp rg n S) => rsdrop_any x w5 h)
            generalize hS6 : (fun j => if (0 ≤ x ∧ x < n) ∧ j = x.toNat then false else S j) = S6 at HT HU
            generalize hasB n S x = bb at HT HU
            clear hS6 hw0
            have HC5 := Lib.hid (fun (w5 : World) (h : w4.drew.grownBy w5 (some tg)) => (show w5.heap[gc]? = some (.cells #[.int .i64 1, .int .i64 x] 29 (0, 0)) from
              (Keeps.of_grown h (List.mem_singleton_self _)).at (show w4.drew.heap[gc]? = _ from HX4.out) (by have := HPX.out.t1; have := HPX.out.le; have := HGC.out; simp; omega)))
            have HC6 := Lib.hid (fun (w5 w6 : World) (h : w5.heap[gc]? = some (.cells #[.int .i64 1, .int .i64 x] 29 (0, 0))) (h2 : Keeps [rg] w5 w6) => (show w6.heap[gc]? = some (.cells #[.int .i64 1, .int .i64 x] 29 (0, 0)) from
              h2.at h (by have := HRLT.out; simp; omega)))
            go_wp2_with fail
            go_region_held3 (fun w' => w'.cell? ⟨gc, 0, none⟩ = some (.int .i64 1) ∧ w'.cell? ⟨gc, 1, none⟩ = some (.int .i64 x))
              (first | go_keep | exact ⟨cell_of_block q5, cell_of_block q5⟩ | exact ⟨cell_of_block q6, cell_of_block q6⟩)
              (first
                | (go_at_call 10
                   refine HT.out.mono ?_
                   rintro e w5 ⟨rfl, hd5, hg5⟩
                   have q5 := HC5.out w5 hg5)
                | (go_at_call 11
                   refine (HU.out w5 (HPD.out.refAt hg5)).mono ?_
                   rintro e w6 ⟨rfl, hd6, hk6⟩
                   have q6 := HC6.out w5 w6 q5 hk6))
            have HP6 := Lib.hid (HPD.out.moved hd5 hg5 hd6 hk6)
            have HX6 := Lib.hid (HC6.out w5 w6 q5 hk6)
            clear hd5 hg5 hd6 hk6 q5 q6
            have g1 : w6.cell? ⟨gc, 1, none⟩ = some (.int .i64 x) := cell_of_block HX6.out
            have HPE := Lib.hid (HP6.out.below (Below.refl _ _).drew)
            obtain ⟨RF, hRF⟩ := run_exists n S6 1
            have HH := Lib.hid (has_any x w6.drew HPE.out.tab)
            have HRH := Lib.hid (rshas_any x w6.drew HPE.out.ref)
            have HF := Lib.hid (run_to hRF (free_any w6.drew HPE.out.tab))
            have HRF := Lib.hid (run_to hRF (rsfree_any w6.drew HPE.out.ref))
            have HCT := Lib.hid (count_any w6.drew HPE.out.tab)
            have HRC := Lib.hid (rscount_any w6.drew HPE.out.ref)
            have HLI := Lib.hid (fun (w7 : World) (hb : Below w6.drew.heap.size w6.drew w7) => setList_any w7 (HPE.out.below hb).tab (HTZ.out.below (HPE.out.below hb).bel (by rw [HBE.out]; exact Nat.le_refl _)))
            have HRL := Lib.hid (fun (w7 : World) (hb : Below w6.drew.heap.size w6.drew w7) => rslist_any w7 (HPE.out.below hb).ref)
            have HLL : Hid ((lst S6 n).length ≤ 1048576) := (show (lst S6 n).length ≤ 1048576 by have := lst_le S6 n; omega)
            generalize hasB n S6 x = hb1 at HH HRH
            generalize cnt S6 n = ct at HCT HRC
            generalize lst S6 n = ls at HLI HRL HLL
            have HSI := Lib.hid (fun (w7 : World) (v v2 : Value) (hr : RowS w7 1 v ls.length (intC ls)) (hr2 : RowS w7 1 v2 ls.length (intC ls)) => sameInts_eq ls v v2 w7 hr hr2 HLL.out)
            have HC7 := Lib.hid (fun (w7 : World) (hb : Below w6.drew.heap.size w6.drew w7) => (show w7.cell? ⟨gc, 1, none⟩ = some (.int .i64 x) from (hb.cell (p := ⟨gc, 1, none⟩) (Array.getElem?_eq_some_iff.1 HX6.out).1).trans g1))
            clear hRF
            go_wp2_with fail
            go_region_held3 (fun w' => w'.cell? ⟨gc, 1, none⟩ = some (.int .i64 x))
              (first | go_keep | exact q7 | exact q8 | exact q9 | exact q10)
              (first
                | (go_at_call 14
                   refine HH.out.mono ?_
                   rintro e w7 ⟨rfl, rfl⟩)
                | (go_at_call 15
                   refine HRH.out.mono ?_
                   rintro e w7 ⟨rfl, rfl⟩)
                | (go_at_call 16
                   refine HF.out.mono ?_
                   rintro e w7 ⟨rfl, rfl⟩)
                | (go_at_call 17
                   refine HRF.out.mono ?_
                   rintro e w7 ⟨rfl, rfl⟩)
                | (go_at_call 18
                   refine HCT.out.mono ?_
                   rintro e w7 ⟨rfl, rfl⟩)
                | (go_at_call 19
                   refine HRC.out.mono ?_
                   rintro e w7 ⟨rfl, hb7⟩
                   have q7 := HC7.out w7 hb7)
                | (go_at_call 21
                   refine (HLI.out w7 hb7).mono ?_
                   rintro e w8 ⟨v8, rfl, hr8, hn8, hb8⟩
                   have hb18 := hb7.trans (hb8.mono hb7.size)
                   have q8 := HC7.out w8 hb18)
                | (go_at_call 22
                   refine (HRL.out w8 hb18).mono ?_
                   rintro e w9 ⟨v9, rfl, hr9, hn9, hb9⟩
                   have hb19 := hb18.trans (hb9.mono hb18.size)
                   have q9 := HC7.out w9 hb19)
                | (go_at_call 20
                   refine (HSI.out w9 v8 v9 (hr8.keeps (Keeps.of_below hb9 (Nat.le_refl _) []) fun _ _ => List.not_mem_nil) hr9).mono ?_
                   rintro e w10 ⟨rfl, k10, rfl⟩
                   have q10 := HC7.out (w9.drewN k10) (below_drewN hb19 k10)))
            have HPZ := Lib.hid (HPE.out.below (below_drewN hb19 k10))
            clear hb7 hr8 hn8 hb8 hb18 hr9 hn9 hb9 hb19 q7 q8 q9 q10
            go_wp2
            go_roundw
            case rel => first | exact ⟨k + 1, _, _, by go_num, by omega, HPZ⟩ | ((repeat apply Exists.intro); exact ⟨⟨k + 1, _, _, by go_num, by omega, HPZ⟩, rfl⟩)
            case measure => simp [intOf]; omega
          · by_cases hw2 : wk = 2
            · subst hw2
              obtain ⟨R, hR⟩ := run_exists n S (atLeast1 x)
              have HT := Lib.hid (run_to hR (setRun_any x w4.drew HPD.out.tab HXK.out))
              have HU := Lib.hid (run_to hR (rsrun_any x w4.drew HPD.out.ref HXK.out))
              clear hR hw0 hw1
              go_wp2_with fail
              go_region_held3 (fun w' => w'.cell? ⟨gc, 0, none⟩ = some (.int .i64 2) ∧ w'.cell? ⟨gc, 1, none⟩ = some (.int .i64 x))
                (go_keep)
                (first
                  | (go_at_call 12
                     refine HT.out.mono ?_
                     rintro e w5 ⟨rfl, rfl⟩)
                  | (go_at_call 13
                     refine HU.out.mono ?_
                     rintro e w5 ⟨rfl, rfl⟩))
              obtain ⟨w6, hw6⟩ : ∃ w6 : World, w6 = w4.drew := ⟨_, rfl⟩
              obtain ⟨S6, hS6⟩ : ∃ S6 : Nat → Bool, S6 = S := ⟨_, rfl⟩
              rw [← hw6, ← hS6] at HPD
              have HP6 := HPD
              have HX6 : Hid (w6.heap[gc]? = some (.cells #[.int .i64 2, .int .i64 x] 29 (0, 0))) := (show w6.heap[gc]? = _ by rw [hw6]; exact HX4.out)
              rw [← hw6]
              clear HPD hw6 hS6
              have g1 : w6.cell? ⟨gc, 1, none⟩ = some (.int .i64 x) := cell_of_block HX6.out
              have HPE := Lib.hid (HP6.out.below (Below.refl _ _).drew)
              obtain ⟨RF, hRF⟩ := run_exists n S6 1
              have HH := Lib.hid (has_any x w6.drew HPE.out.tab)
              have HRH := Lib.hid (rshas_any x w6.drew HPE.out.ref)
              have HF := Lib.hid (run_to hRF (free_any w6.drew HPE.out.tab))
              have HRF := Lib.hid (run_to hRF (rsfree_any w6.drew HPE.out.ref))
              have HCT := Lib.hid (count_any w6.drew HPE.out.tab)
              have HRC := Lib.hid (rscount_any w6.drew HPE.out.ref)
              have HLI := Lib.hid (fun (w7 : World) (hb : Below w6.drew.heap.size w6.drew w7) => setList_any w7 (HPE.out.below hb).tab (HTZ.out.below (HPE.out.below hb).bel (by rw [HBE.out]; exact Nat.le_refl _)))
              have HRL := Lib.hid (fun (w7 : World) (hb : Below w6.drew.heap.size w6.drew w7) => rslist_any w7 (HPE.out.below hb).ref)
              have HLL : Hid ((lst S6 n).length ≤ 1048576) := (show (lst S6 n).length ≤ 1048576 by have := lst_le S6 n; omega)
              generalize hasB n S6 x = hb1 at HH HRH
              generalize cnt S6 n = ct at HCT HRC
              generalize lst S6 n = ls at HLI HRL HLL
              have HSI := Lib.hid (fun (w7 : World) (v v2 : Value) (hr : RowS w7 1 v ls.length (intC ls)) (hr2 : RowS w7 1 v2 ls.length (intC ls)) => sameInts_eq ls v v2 w7 hr hr2 HLL.out)
              have HC7 := Lib.hid (fun (w7 : World) (hb : Below w6.drew.heap.size w6.drew w7) => (show w7.cell? ⟨gc, 1, none⟩ = some (.int .i64 x) from (hb.cell (p := ⟨gc, 1, none⟩) (Array.getElem?_eq_some_iff.1 HX6.out).1).trans g1))
              clear hRF
              go_wp2_with fail
              go_region_held3 (fun w' => w'.cell? ⟨gc, 1, none⟩ = some (.int .i64 x))
                (first | go_keep | exact q7 | exact q8 | exact q9 | exact q10)
                (first
                  | (go_at_call 14
                     refine HH.out.mono ?_
                     rintro e w7 ⟨rfl, rfl⟩)
                  | (go_at_call 15
                     refine HRH.out.mono ?_
                     rintro e w7 ⟨rfl, rfl⟩)
                  | (go_at_call 16
                     refine HF.out.mono ?_
                     rintro e w7 ⟨rfl, rfl⟩)
                  | (go_at_call 17
                     refine HRF.out.mono ?_
                     rintro e w7 ⟨rfl, rfl⟩)
                  | (go_at_call 18
                     refine HCT.out.mono ?_
                     rintro e w7 ⟨rfl, rfl⟩)
                  | (go_at_call 19
                     refine HRC.out.mono ?_
                     rintro e w7 ⟨rfl, hb7⟩
                     have q7 := HC7.out w7 hb7)
                  | (go_at_call 21
                     refine (HLI.out w7 hb7).mono ?_
                     rintro e w8 ⟨v8, rfl, hr8, hn8, hb8⟩
                     have hb18 := hb7.trans (hb8.mono hb7.size)
                     have q8 := HC7.out w8 hb18)
                  | (go_at_call 22
                     refine (HRL.out w8 hb18).mono ?_
                     rintro e w9 ⟨v9, rfl, hr9, hn9, hb9⟩
                     have hb19 := hb18.trans (hb9.mono hb18.size)
                     have q9 := HC7.out w9 hb19)
                  | (go_at_call 20
                     refine (HSI.out w9 v8 v9 (hr8.keeps (Keeps.of_below hb9 (Nat.le_refl _) []) fun _ _ => List.not_mem_nil) hr9).mono ?_
                     rintro e w10 ⟨rfl, k10, rfl⟩
                     have q10 := HC7.out (w9.drewN k10) (below_drewN hb19 k10)))
              have HPZ := Lib.hid (HPE.out.below (below_drewN hb19 k10))
              clear hb7 hr8 hn8 hb8 hb18 hr9 hn9 hb9 hb19 q7 q8 q9 q10
              go_wp2
              go_roundw
              case rel => first | exact ⟨k + 1, _, _, by go_num, by omega, HPZ⟩ | ((repeat apply Exists.intro); exact ⟨⟨k + 1, _, _, by go_num, by omega, HPZ⟩, rfl⟩)
              case measure => simp [intOf]; omega
            · have b0 : (wk == 0) = false := by rw [beq_eq_false_iff_ne]; exact hw0
              have b1 : (wk == 1) = false := by rw [beq_eq_false_iff_ne]; exact hw1
              have b2 : (wk == 2) = false := by rw [beq_eq_false_iff_ne]; exact hw2
              obtain ⟨w6, rfl⟩ : ∃ w6 : World, w6 = w4 := ⟨_, rfl⟩
              obtain ⟨S6, rfl⟩ : ∃ S6 : Nat → Bool, S6 = S := ⟨_, rfl⟩
              have HP6 := HP4
              have HX6 := HX4
              clear hw0 hw1 hw2
              have g1 : w6.cell? ⟨gc, 1, none⟩ = some (.int .i64 x) := cell_of_block HX6.out
              have HPE := Lib.hid (HP6.out.below (Below.refl _ _).drew)
              obtain ⟨RF, hRF⟩ := run_exists n S6 1
              have HH := Lib.hid (has_any x w6.drew HPE.out.tab)
              have HRH := Lib.hid (rshas_any x w6.drew HPE.out.ref)
              have HF := Lib.hid (run_to hRF (free_any w6.drew HPE.out.tab))
              have HRF := Lib.hid (run_to hRF (rsfree_any w6.drew HPE.out.ref))
              have HCT := Lib.hid (count_any w6.drew HPE.out.tab)
              have HRC := Lib.hid (rscount_any w6.drew HPE.out.ref)
              have HLI := Lib.hid (fun (w7 : World) (hb : Below w6.drew.heap.size w6.drew w7) => setList_any w7 (HPE.out.below hb).tab (HTZ.out.below (HPE.out.below hb).bel (by rw [HBE.out]; exact Nat.le_refl _)))
              have HRL := Lib.hid (fun (w7 : World) (hb : Below w6.drew.heap.size w6.drew w7) => rslist_any w7 (HPE.out.below hb).ref)
              have HLL : Hid ((lst S6 n).length ≤ 1048576) := (show (lst S6 n).length ≤ 1048576 by have := lst_le S6 n; omega)
              generalize hasB n S6 x = hb1 at HH HRH
              generalize cnt S6 n = ct at HCT HRC
              generalize lst S6 n = ls at HLI HRL HLL
              have HSI := Lib.hid (fun (w7 : World) (v v2 : Value) (hr : RowS w7 1 v ls.length (intC ls)) (hr2 : RowS w7 1 v2 ls.length (intC ls)) => sameInts_eq ls v v2 w7 hr hr2 HLL.out)
              have HC7 := Lib.hid (fun (w7 : World) (hb : Below w6.drew.heap.size w6.drew w7) => (show w7.cell? ⟨gc, 1, none⟩ = some (.int .i64 x) from (hb.cell (p := ⟨gc, 1, none⟩) (Array.getElem?_eq_some_iff.1 HX6.out).1).trans g1))
              clear hRF
              go_wp2_with fail
              go_region_held3 (fun w' => w'.cell? ⟨gc, 1, none⟩ = some (.int .i64 x))
                (first | go_keep | exact q7 | exact q8 | exact q9 | exact q10)
                (first
                  | (go_at_call 14
                     refine HH.out.mono ?_
                     rintro e w7 ⟨rfl, rfl⟩)
                  | (go_at_call 15
                     refine HRH.out.mono ?_
                     rintro e w7 ⟨rfl, rfl⟩)
                  | (go_at_call 16
                     refine HF.out.mono ?_
                     rintro e w7 ⟨rfl, rfl⟩)
                  | (go_at_call 17
                     refine HRF.out.mono ?_
                     rintro e w7 ⟨rfl, rfl⟩)
                  | (go_at_call 18
                     refine HCT.out.mono ?_
                     rintro e w7 ⟨rfl, rfl⟩)
                  | (go_at_call 19
                     refine HRC.out.mono ?_
                     rintro e w7 ⟨rfl, hb7⟩
                     have q7 := HC7.out w7 hb7)
                  | (go_at_call 21
                     refine (HLI.out w7 hb7).mono ?_
                     rintro e w8 ⟨v8, rfl, hr8, hn8, hb8⟩
                     have hb18 := hb7.trans (hb8.mono hb7.size)
                     have q8 := HC7.out w8 hb18)
                  | (go_at_call 22
                     refine (HRL.out w8 hb18).mono ?_
                     rintro e w9 ⟨v9, rfl, hr9, hn9, hb9⟩
                     have hb19 := hb18.trans (hb9.mono hb18.size)
                     have q9 := HC7.out w9 hb19)
                  | (go_at_call 20
                     refine (HSI.out w9 v8 v9 (hr8.keeps (Keeps.of_below hb9 (Nat.le_refl _) []) fun _ _ => List.not_mem_nil) hr9).mono ?_
                     rintro e w10 ⟨rfl, k10, rfl⟩
                     have q10 := HC7.out (w9.drewN k10) (below_drewN hb19 k10)))
              have HPZ := Lib.hid (HPE.out.below (below_drewN hb19 k10))
              clear hb7 hr8 hn8 hb8 hb18 hr9 hn9 hb9 hb19 q7 q8 q9 q10
              go_wp2
              go_roundw
              case rel => first | exact ⟨k + 1, _, _, by go_num, by omega, HPZ⟩ | ((repeat apply Exists.intro); exact ⟨⟨k + 1, _, _, by go_num, by omega, HPZ⟩, rfl⟩)
              case measure => simp [intOf]; omega
      · obtain rfl : k = len1 := by omega
        have HBF := Lib.hid hpl.out.bel
        clear hlt
        go_wp2
        go_ret
        exact ⟨rfl, by rw [← HBE.out]; exact HBF.out⟩
/-- what is told of the argument 1 -/
def setPlays.arg1 (w : World) (a : Option Addr) (len cap : Nat) : Prop := ∃ F : Nat → Nat → Value, Rows w a len cap 2 F ∧ ∀ i, i < len → ((∃ n : Int, (F i) 0 = .int .i64 n ∧ (Lit.int .i64 n).wf = true) ∧ (∃ n : Int, (F i) 1 = .int .i64 n ∧ (Lit.int .i64 n).wf = true))
theorem setPlays.walk (a0 : Int) (a1 : Option Addr) (len1 cap1 : Nat) (w : World) (w0 : (Lit.int .i64 a0).wf = true) (w1 : setPlays.arg1 w a1 len1 cap1) (hT : TzTab w) :
    Calls Tryd.prog 3 #[.int .i64 a0, .slice a1 len1 cap1] w fun e w' => e = .returned (.bool true) ∧ Below w.heap.size w w' := by
  obtain ⟨F, hR, hF⟩ := w1
  have hle := hR.le
  have hmx := hR.max
  by_cases ho : 100 < len1 ∨ (2000 < a0 ∧ a0 ≤ 1000000)
  · exact setPlays.out a0 a1 len1 cap1 w ho (by omega)
  obtain ⟨wy, h0⟩ := pick (fun i hi => (hF i hi).1)
  obtain ⟨nn, h1⟩ := pick (fun i hi => (hF i hi).2)
  have hI : ∀ i, i < len1 → ((Lit.int .i64 (wy i)).wf = true ∧ (Lit.int .i64 (nn i)).wf = true) ∧ ∃ b off, a1 = some ⟨b, off, none⟩ ∧ b < w.heap.size ∧ w.cell? ⟨b, off + i * 2, none⟩ = some (.int .i64 (wy i)) ∧ w.cell? ⟨b, off + i * 2 + 1, none⟩ = some (.int .i64 (nn i)) := by
    intro i hi
    refine ⟨⟨(h0 i hi).2, (h1 i hi).2⟩, ?_⟩
    obtain ⟨b, off, ha, hb, e0⟩ := hR.cell i 0 hi (by omega)
    obtain ⟨b1, off1, ha1, _, e1⟩ := hR.cell i 1 hi (by omega)
    rw [ha] at ha1
    cases ha1
    rw [(h0 i hi).1] at e0
    rw [(h1 i hi).1] at e1
    exact ⟨b, off, ha, hb, e0, e1⟩
  by_cases hb : a0 ≤ 2000
  · exact setPlays.inside a0 _ a1 len1 cap1 wy nn w hT (.inl ⟨hb, rfl⟩) (by omega) hI
  · exact setPlays.inside a0 _ a1 len1 cap1 wy nn w hT (.inr ⟨by omega, rfl⟩) (by omega) hI
end Go.Proofs.YtkfgpgllpegleaaDoor

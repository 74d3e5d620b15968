/- The walk of the law LeastPlays: it answers true for every input. -/
import Derived.Test.YtogifanooleppaaLeastPlaysOps
import Derived.Test.YtogifanooleppaaOpen
import Derived.Deep.RegionHeld3
namespace Go.Proofs.Ytogifanooleppaa
open Go.RowKit Go.Maps
set_option linter.unusedVariables false

theorem below_drewN {B : Nat} {w w' : World} (h : Below B w w') (k : Nat) : Below B w (w'.drewN k) := ⟨h.os, h.tape, h.output, h.size, h.block⟩
theorem leastPlays.out (a0 : Option Addr) (len0 cap0 : Nat) (w : World) (h : 200 < len0) (hl : len0 ≤ 9223372036854775807) :
    Calls Try.prog 13 #[.slice a0 len0 cap0] w fun e w' => e = .returned (.bool true) ∧ Below w.heap.size w w' := by
  go_enter Try.func13, Try.ntmps13
  go_wp2_with (go_at_call 19; refine (alive10 _).mono ?_; rintro e w1 ⟨rfl, hb⟩)
  go_ret
  exact ⟨rfl, by assumption⟩
set_option maxRecDepth 100000 in
set_option maxHeartbeats 8000000 in
theorem leastPlays.inside (a0 : Option Addr) (len0 cap0 : Nat) (wy nn : Nat → Int) (w : World) (hlen : len0 ≤ 200)
    (hI : ∀ i, i < len0 → ((Lit.int .i64 (wy i)).wf = true ∧ (Lit.int .i64 (nn i)).wf = true) ∧ ∃ b off, a0 = some ⟨b, off, none⟩ ∧ b < w.heap.size ∧ w.cell? ⟨b, off + i * 2, none⟩ = some (.int .i64 (wy i)) ∧ w.cell? ⟨b, off + i * 2 + 1, none⟩ = some (.int .i64 (nn i))) :
    Calls Try.prog 13 #[.slice a0 len0 cap0] w fun e w' => e = .returned (.bool true) ∧ Below w.heap.size w w' := by
  have HI := Lib.hid hI
  have HGN := Lib.hid (fun w => qNew w)
  have d1 : decide ((200 : Int) < (len0 : Int)) = false := by rw [decide_eq_false_iff_not]; omega
  obtain ⟨B, hB⟩ : ∃ B, B = w.heap.size := ⟨_, rfl⟩
  have HBE := Lib.hid hB
  clear hB hI
  go_enter Try.func13, Try.ntmps13
  go_wp2_with fail
  refine (alive10 _).mono ?_
  rintro e wa ⟨rfl, hba⟩
  have HBa := Lib.hid hba
  clear hba
  go_wp2_with fail
  refine (HGN.out _).mono ?_
  rintro e w1 ⟨p, m, rfl, hq1, hs1, hb1⟩
  have HQ1 := Lib.hid hq1
  have HS1 := Lib.hid hs1
  have HB1 := Lib.hid hb1
  clear hq1 hs1 hb1
  go_wp2_with fail
  refine (HGN.out _).mono ?_
  rintro e w2 ⟨po, mo, rfl, hq2, hs2, hb2⟩
  have HL0 : Hid (∃ ob, ob = Obj.cells #[.slice none 0 0] 60 ∧ LpAt B p m none 0 (fun _ => false) po mo none 0 (fun _ => false) w2.heap.size none [] w (w2.alloc ob)) := (show ∃ ob, ob = Obj.cells #[.slice none 0 0] 60 ∧ LpAt B p m none 0 (fun _ => false) po mo none 0 (fun _ => false) w2.heap.size none [] w (w2.alloc ob) by
    have l1 := HQ1.out.lt
    have l2 := hq2.lt
    have s0 := HBa.out.size
    have s1 := HB1.out.size
    have s2 := hb2.size
    have z1 := HS1.out
    have p1 := l1 p (by simp)
    have m1 := l1 m (by simp)
    have p2 := l2 po (by simp)
    have m2 := l2 mo (by simp)
    have hbx : Below w2.heap.size w2 (w2.alloc (.cells #[.slice none 0 0] 60)) := (Below.refl _ _).alloc (Nat.le_refl _) _
    refine ⟨_, rfl, (HQ1.out.below hb2).below hbx, hq2.below hbx, ⟨_, _, ⟨heap_alloc_at _ _, ⟨_, rfl, rfl, RowS.nil _ _⟩, by simp⟩⟩, List.Pairwise.nil, fun y => by simp, Nat.le_refl _, ?_, ?_, ?_, ?_, ?_, ?_, ?_⟩
    · rw [HBE.out]
      exact ((HBa.out.trans (HB1.out.mono s0)).trans (hb2.mono (by omega))).trans (hbx.mono (by omega))
    all_goals
      intro x hx
      simp at hx ⊢
      have hBE := HBE.out
      omega)
  obtain ⟨ob, hob, hlp0⟩ := HL0.out
  have HOB := Lib.hid hob
  have HLP0 := Lib.hid hlp0
  clear hq2 hs2 hb2 HL0 hob hlp0
  go_wp2_with fail
  rw [← HOB.out]
  generalize hW3 : w2.alloc ob = w3 at HLP0 ⊢
  generalize hR : w2.heap.size = r at HLP0 ⊢
  clear hW3 hR
  go_loopw [7] (fun iv wr => ∃ (k : Nat) (q qo rq : Option Nat) (T To : Int → Bool) (l : List Int), iv = .int .i64 (k : Nat) ∧ k ≤ len0 ∧ Hid (LpAt B p m q k T po mo qo k To r rq l w wr)) (fun iv _ => len0 - (intOf iv).toNat)
  case atStart => exact ⟨0, none, none, none, _, _, [], rfl, Nat.zero_le _, HLP0⟩
  case round =>
    obtain ⟨k, q, qo, rq, T, To, l, rfl, hk, hlp⟩ := hrel
    obtain ⟨wo, rfl⟩ : ∃ wo : World, wo = wr := ⟨_, rfl⟩
    by_cases hlt : k < len0
    · obtain ⟨⟨f1, f2⟩, g, off, rfl, hg, hc0, hc1⟩ := HI.out k hlt
      have c0 := (hlp.out.bel.cell (p := ⟨g, off + k * 2, none⟩) (by rw [HBE.out]; exact hg)).trans hc0
      have c1 := (hlp.out.bel.cell (p := ⟨g, off + k * 2 + 1, none⟩) (by rw [HBE.out]; exact hg)).trans hc1
      have hi0 : (0 : Int) ≤ (k : Int) := by omega
      have hi1 : (k : Int) < (len0 : Int) := by omega
      clear hc0 hc1
      generalize hA0 : wy k = wk at c0 f1
      generalize hA1 : nn k = x at c1 f2
      have F2 := Lib.hid f2
      clear hA0 hA1 f1 f2
      obtain ⟨wx, hwx⟩ : ∃ wx, wx = wo.alloc (.cells #[.int .i64 wk, .int .i64 x] 62) := ⟨_, rfl⟩
      have hbx : Below wo.heap.size wo wx := by rw [hwx]; exact (Below.refl _ _).alloc (Nat.le_refl _) _
      have HPX := Lib.hid (hlp.out.below hbx)
      have HXC : Hid (wx.heap[wo.heap.size]? = some (.cells #[.int .i64 wk, .int .i64 x] 62 (0, 0))) := (show _ by rw [hwx]; exact heap_alloc_at _ _)
      have HGN2 : Hid (wo.heap.size ∉ ownL p m q ∧ wo.heap.size ∉ ownL po mo qo ∧ wo.heap.size ∉ r :: rq.toList) := (show _ ∧ _ ∧ _ from ⟨fun h => Nat.lt_irrefl _ (hlp.out.h.lt _ h), fun h => Nat.lt_irrefl _ (hlp.out.o.lt _ h), fun h => Nat.lt_irrefl _ (hlp.out.ref.lt _ h)⟩)
      have HGS : Hid (wo.heap.size < wx.heap.size) := (show wo.heap.size < wx.heap.size by rw [hwx, size_alloc]; exact Nat.lt_succ_self _)
      have HOT := Lib.hid (qPush (-(k : Int)) wx HPX.out.o (WalkArith.wf_i64 (by omega)) (by omega))
      have HWX := Lib.hid hwx
      clear hbx hwx hlp
      go_wp2_with fail
      rw [← HWX.out]
      generalize wo.heap.size = gc at HXC HGN2 HGS ⊢
      clear c0 c1
      refine HOT.out.mono ?_
      rintro en w4 ⟨rfl, hd4⟩
      obtain ⟨qo4, hp4, hg4⟩ := HPX.out.other hd4
      have HP4 := Lib.hid hp4
      have HG4 := Lib.hid (hg4 gc HGS.out HGN2.out)
      have HX4 : Hid (w4.heap[gc]? = some (.cells #[.int .i64 wk, .int .i64 x] 62 (0, 0))) := (show _ from HG4.out.2.trans HXC.out)
      have HGL4 : Hid (gc < w4.heap.size) := (Array.getElem?_eq_some_iff.1 HX4.out).1
      have e0 : w4.cell? ⟨gc, 0, none⟩ = some (.int .i64 wk) := cell_of_block HX4.out
      have e1 : w4.cell? ⟨gc, 1, none⟩ = some (.int .i64 x) := cell_of_block HX4.out
      clear hd4 hp4 hg4
      have HPD : Hid (LpAt B p m q k T po mo qo4 (k + 1) _ r rq l w w4.drew) := (show _ from HP4.out.below (Below.refl _ _).drew)
      by_cases hw0 : wk = 0
      · subst hw0
        have HT := Lib.hid (qPush x w4.drew HPD.out.h F2.out (by omega))
        have HU := Lib.hid (fun (w5 : World) (h : RefH w5 r rq l) => rhPushT x w5 h (by have := HPD.out.len; omega) HPD.out.rise HPD.out.mem)
        have HC5 := Lib.hid (fun (w5 : World) (N' : Nat) (T' : Int → Bool) (hd : QDone w4.drew p m q N' T' w5) => (show w5.cell? ⟨gc, 0, none⟩ = some (.int .i64 0) ∧ w5.cell? ⟨gc, 1, none⟩ = some (.int .i64 x) ∧ w5.heap[gc]? = some (.cells #[.int .i64 0, .int .i64 x] 62 (0, 0)) by
          have hb := (hd.block (g := gc) HGL4.out HG4.out.1.1).1.trans (show w4.drew.heap[gc]? = _ from HX4.out)
          exact ⟨cell_of_block hb, cell_of_block hb, hb⟩))
        have HC6 := Lib.hid (fun (w5 w6 : World) (N' : Nat) (T' : Int → Bool) (hb : w5.heap[gc]? = some (.cells #[.int .i64 0, .int .i64 x] 62 (0, 0))) (hd : RStep w5 r rq T' N' w6) => (show w6.cell? ⟨gc, 0, none⟩ = some (.int .i64 0) ∧ w6.cell? ⟨gc, 1, none⟩ = some (.int .i64 x) ∧ w6.heap[gc]? = some (.cells #[.int .i64 0, .int .i64 x] 62 (0, 0)) by
          have hb2 := (hd.block (g := gc) (Array.getElem?_eq_some_iff.1 hb).1 HG4.out.1.2.2).1.trans hb
          exact ⟨cell_of_block hb2, cell_of_block hb2, hb2⟩))
        go_wp2_with fail
        go_region_held3 (fun w' => w'.cell? ⟨gc, 0, none⟩ = some (.int .i64 0) ∧ w'.cell? ⟨gc, 1, none⟩ = some (.int .i64 x))
          (first | go_keep | exact ⟨q5.1, q5.2.1⟩ | exact ⟨q6.1, q6.2.1⟩)
          (first
            | (go_at_call 22
               refine HT.out.mono ?_
               rintro e w5 ⟨rfl, hd5⟩
               have q5 := HC5.out w5 _ _ hd5)
            | (go_at_call 46
               refine (HU.out w5 (HPD.out.refAt hd5)).mono ?_
               rintro e w6 ⟨rfl, hd6⟩
               have q6 := HC6.out w5 w6 _ _ q5.2.2 hd6))
        obtain ⟨q6v, rq6, l6, hp6⟩ := HPD.out.moved hd5 (hd6.mono (by have := HPD.out.len; omega))
        have HP6 := Lib.hid hp6
        have HX6 := Lib.hid q6.2.2
        clear hp6 hd5 hd6 q5 q6
        have g1 : w6.cell? ⟨gc, 1, none⟩ = some (.int .i64 x) := cell_of_block HX6.out
        have HPE := Lib.hid (HP6.out.below (Below.refl _ _).drew)
        obtain ⟨ar, cr, hr0, _, _, _, _, hrr, _⟩ := HPE.out.ref.read
        have HRR := Lib.hid hrr
        have HH := Lib.hid (qHas x w6.drew HPE.out.h F2.out)
        have HRH := Lib.hid (rhHasT x w6.drew HPE.out.ref (by have := HPE.out.len; omega) HPE.out.mem)
        have HLI := Lib.hid (qList l6 w6.drew HPE.out.h (by omega) HPE.out.rise HPE.out.mem)
        have HSI := Lib.hid (fun (w7 : World) (v : Value) (hb : Below w6.drew.heap.size w6.drew w7) (hr : RowS w7 1 v l6.length (intC l6)) => sameInts_eq l6 v _ w7 hr (HRR.out.keeps (Keeps.of_below hb (Nat.le_refl _) []) fun _ _ => List.not_mem_nil) (by have := HPE.out.len; omega))
        have HC7 := Lib.hid (fun (w7 : World) (hb : Below w6.drew.heap.size w6.drew w7) => (show w7.cell? ⟨gc, 1, none⟩ = some (.int .i64 x) ∧ w7.cell? ⟨r, 0, none⟩ = some (.slice ar l6.length cr) from ⟨(hb.cell (p := ⟨gc, 1, none⟩) (Array.getElem?_eq_some_iff.1 HX6.out).1).trans g1, (hb.cell (p := ⟨r, 0, none⟩) (HPE.out.ref.lt r (by simp))).trans hr0⟩))
        clear hrr
        go_wp2_with fail
        go_region_held3 (fun w' => w'.cell? ⟨gc, 1, none⟩ = some (.int .i64 x) ∧ w'.cell? ⟨r, 0, none⟩ = some (.slice ar l6.length cr))
          (first | go_keep | exact q7 | exact q8)
          (first
            | (go_at_call 21
               refine HH.out.mono ?_
               rintro e w7 ⟨rfl, rfl⟩)
            | (go_at_call 49
               refine HRH.out.mono ?_
               rintro e w7 ⟨rfl, rfl⟩)
            | (go_at_call 44
               refine (HLI.out).mono ?_
               rintro e w7 ⟨v7, rfl, hr7, _, hb7⟩
               have q7 := HC7.out w7 hb7)
            | (go_at_call 36
               refine (HSI.out w7 v7 hb7 hr7).mono ?_
               rintro e w8 ⟨rfl, k8, rfl⟩
               have q8 := HC7.out (w7.drewN k8) (below_drewN hb7 k8)))
        have HPZ := Lib.hid (HPE.out.below (below_drewN hb7 k8))
        clear hb7 hr7
        go_wp2
        go_roundw
        case rel => first | exact ⟨k + 1, _, _, _, _, _, _, by go_num, by omega, HPZ⟩ | ((repeat apply Exists.intro); exact ⟨⟨k + 1, _, _, _, _, _, _, by go_num, by omega, HPZ⟩, rfl⟩)
        case measure => simp [intOf]; omega
      · by_cases hw1 : wk = 1
        · subst hw1
          have HT := Lib.hid (qPop l.head? w4 HP4.out.h (by omega) (head_least HP4.out.rise HP4.out.mem))
          have HU := Lib.hid (fun (w5 : World) (h : RefH w5 r rq l) => rhPopT w5 h (by have := HP4.out.len; omega) HP4.out.rise HP4.out.mem)
          generalize hz : l.head?.getD 0 = z at HT HU
          generalize hz2 : l.head?.isSome = zb at HT HU
          clear hw0
          go_wp2_with fail
          refine HT.out.mono ?_
          rintro e w5 ⟨rfl, hd5⟩
          have HD5 := Lib.hid hd5
          have HRA := Lib.hid (HP4.out.refAt hd5)
          have HB5 : Hid (w5.heap[gc]? = some (.cells #[.int .i64 1, .int .i64 x] 62 (0, 0))) := (show _ from (hd5.block (g := gc) HGL4.out HG4.out.1.1).1.trans HX4.out)
          clear hd5
          go_wp2_with fail
          refine (HU.out w5 HRA.out).mono ?_
          rintro e w6 ⟨rfl, hd6⟩
          obtain ⟨q6v, rq6, l6, hp6⟩ := HP4.out.moved (HD5.out.mono (Nat.le_succ _)) (hd6.mono (by have := HP4.out.len; omega))
          have HP6 := Lib.hid hp6
          have HX6 : Hid (w6.heap[gc]? = some (.cells #[.int .i64 1, .int .i64 x] 62 (0, 0))) := (show _ from (hd6.block (g := gc) (Array.getElem?_eq_some_iff.1 HB5.out).1 HG4.out.1.2.2).1.trans HB5.out)
          clear hp6 hd6 e0 e1 hz hz2
          have g1 : w6.cell? ⟨gc, 1, none⟩ = some (.int .i64 x) := cell_of_block HX6.out
          have HPE := Lib.hid (HP6.out.below (Below.refl _ _).drew)
          obtain ⟨ar, cr, hr0, _, _, _, _, hrr, _⟩ := HPE.out.ref.read
          have HRR := Lib.hid hrr
          have HH := Lib.hid (qHas x w6.drew HPE.out.h F2.out)
          have HRH := Lib.hid (rhHasT x w6.drew HPE.out.ref (by have := HPE.out.len; omega) HPE.out.mem)
          have HLI := Lib.hid (qList l6 w6.drew HPE.out.h (by omega) HPE.out.rise HPE.out.mem)
          have HSI := Lib.hid (fun (w7 : World) (v : Value) (hb : Below w6.drew.heap.size w6.drew w7) (hr : RowS w7 1 v l6.length (intC l6)) => sameInts_eq l6 v _ w7 hr (HRR.out.keeps (Keeps.of_below hb (Nat.le_refl _) []) fun _ _ => List.not_mem_nil) (by have := HPE.out.len; omega))
          have HC7 := Lib.hid (fun (w7 : World) (hb : Below w6.drew.heap.size w6.drew w7) => (show w7.cell? ⟨gc, 1, none⟩ = some (.int .i64 x) ∧ w7.cell? ⟨r, 0, none⟩ = some (.slice ar l6.length cr) from ⟨(hb.cell (p := ⟨gc, 1, none⟩) (Array.getElem?_eq_some_iff.1 HX6.out).1).trans g1, (hb.cell (p := ⟨r, 0, none⟩) (HPE.out.ref.lt r (by simp))).trans hr0⟩))
          clear hrr
          go_wp2_with fail
          go_region_held3 (fun w' => w'.cell? ⟨gc, 1, none⟩ = some (.int .i64 x) ∧ w'.cell? ⟨r, 0, none⟩ = some (.slice ar l6.length cr))
            (first | go_keep | exact q7 | exact q8)
            (first
              | (go_at_call 21
                 refine HH.out.mono ?_
                 rintro e w7 ⟨rfl, rfl⟩)
              | (go_at_call 49
                 refine HRH.out.mono ?_
                 rintro e w7 ⟨rfl, rfl⟩)
              | (go_at_call 44
                 refine (HLI.out).mono ?_
                 rintro e w7 ⟨v7, rfl, hr7, _, hb7⟩
                 have q7 := HC7.out w7 hb7)
              | (go_at_call 36
                 refine (HSI.out w7 v7 hb7 hr7).mono ?_
                 rintro e w8 ⟨rfl, k8, rfl⟩
                 have q8 := HC7.out (w7.drewN k8) (below_drewN hb7 k8)))
          have HPZ := Lib.hid (HPE.out.below (below_drewN hb7 k8))
          clear hb7 hr7
          go_wp2
          go_roundw
          case rel => first | exact ⟨k + 1, _, _, _, _, _, _, by go_num, by omega, HPZ⟩ | ((repeat apply Exists.intro); exact ⟨⟨k + 1, _, _, _, _, _, _, by go_num, by omega, HPZ⟩, rfl⟩)
          case measure => simp [intOf]; omega
        · by_cases hw2 : wk = 2
          · subst hw2
            have HT := Lib.hid (qDrop x w4.drew HPD.out.h F2.out (by omega))
            have HU := Lib.hid (fun (w5 : World) (h : RefH w5 r rq l) => rhDropT x w5 h (by have := HPD.out.len; omega) HPD.out.rise HPD.out.mem)
            have HC5 := Lib.hid (fun (w5 : World) (N' : Nat) (T' : Int → Bool) (hd : QDone w4.drew p m q N' T' w5) => (show w5.cell? ⟨gc, 0, none⟩ = some (.int .i64 2) ∧ w5.cell? ⟨gc, 1, none⟩ = some (.int .i64 x) ∧ w5.heap[gc]? = some (.cells #[.int .i64 2, .int .i64 x] 62 (0, 0)) by
              have hb := (hd.block (g := gc) HGL4.out HG4.out.1.1).1.trans (show w4.drew.heap[gc]? = _ from HX4.out)
              exact ⟨cell_of_block hb, cell_of_block hb, hb⟩))
            have HC6 := Lib.hid (fun (w5 w6 : World) (N' : Nat) (T' : Int → Bool) (hb : w5.heap[gc]? = some (.cells #[.int .i64 2, .int .i64 x] 62 (0, 0))) (hd : RStep w5 r rq T' N' w6) => (show w6.cell? ⟨gc, 0, none⟩ = some (.int .i64 2) ∧ w6.cell? ⟨gc, 1, none⟩ = some (.int .i64 x) ∧ w6.heap[gc]? = some (.cells #[.int .i64 2, .int .i64 x] 62 (0, 0)) by
              have hb2 := (hd.block (g := gc) (Array.getElem?_eq_some_iff.1 hb).1 HG4.out.1.2.2).1.trans hb
              exact ⟨cell_of_block hb2, cell_of_block hb2, hb2⟩))
            go_wp2_with fail
            go_region_held3 (fun w' => w'.cell? ⟨gc, 0, none⟩ = some (.int .i64 2) ∧ w'.cell? ⟨gc, 1, none⟩ = some (.int .i64 x))
              (first | go_keep | exact ⟨q5.1, q5.2.1⟩ | exact ⟨q6.1, q6.2.1⟩)
              (first
                | (go_at_call 45
                   refine HT.out.mono ?_
                   rintro e w5 ⟨rfl, hd5⟩
                   have q5 := HC5.out w5 _ _ hd5)
                | (go_at_call 48
                   refine (HU.out w5 (HPD.out.refAt hd5)).mono ?_
                   rintro e w6 ⟨rfl, hd6⟩
                   have q6 := HC6.out w5 w6 _ _ q5.2.2 hd6))
            obtain ⟨q6v, rq6, l6, hp6⟩ := HPD.out.moved hd5 (hd6.mono (by have := HPD.out.len; omega))
            have HP6 := Lib.hid hp6
            have HX6 := Lib.hid q6.2.2
            clear hp6 hd5 hd6 q5 q6
            have g1 : w6.cell? ⟨gc, 1, none⟩ = some (.int .i64 x) := cell_of_block HX6.out
            have HPE := Lib.hid (HP6.out.below (Below.refl _ _).drew)
            obtain ⟨ar, cr, hr0, _, _, _, _, hrr, _⟩ := HPE.out.ref.read
            have HRR := Lib.hid hrr
            have HH := Lib.hid (qHas x w6.drew HPE.out.h F2.out)
            have HRH := Lib.hid (rhHasT x w6.drew HPE.out.ref (by have := HPE.out.len; omega) HPE.out.mem)
            have HLI := Lib.hid (qList l6 w6.drew HPE.out.h (by omega) HPE.out.rise HPE.out.mem)
            have HSI := Lib.hid (fun (w7 : World) (v : Value) (hb : Below w6.drew.heap.size w6.drew w7) (hr : RowS w7 1 v l6.length (intC l6)) => sameInts_eq l6 v _ w7 hr (HRR.out.keeps (Keeps.of_below hb (Nat.le_refl _) []) fun _ _ => List.not_mem_nil) (by have := HPE.out.len; omega))
            have HC7 := Lib.hid (fun (w7 : World) (hb : Below w6.drew.heap.size w6.drew w7) => (show w7.cell? ⟨gc, 1, none⟩ = some (.int .i64 x) ∧ w7.cell? ⟨r, 0, none⟩ = some (.slice ar l6.length cr) from ⟨(hb.cell (p := ⟨gc, 1, none⟩) (Array.getElem?_eq_some_iff.1 HX6.out).1).trans g1, (hb.cell (p := ⟨r, 0, none⟩) (HPE.out.ref.lt r (by simp))).trans hr0⟩))
            clear hrr
            go_wp2_with fail
            go_region_held3 (fun w' => w'.cell? ⟨gc, 1, none⟩ = some (.int .i64 x) ∧ w'.cell? ⟨r, 0, none⟩ = some (.slice ar l6.length cr))
              (first | go_keep | exact q7 | exact q8)
              (first
                | (go_at_call 21
                   refine HH.out.mono ?_
                   rintro e w7 ⟨rfl, rfl⟩)
                | (go_at_call 49
                   refine HRH.out.mono ?_
                   rintro e w7 ⟨rfl, rfl⟩)
                | (go_at_call 44
                   refine (HLI.out).mono ?_
                   rintro e w7 ⟨v7, rfl, hr7, _, hb7⟩
                   have q7 := HC7.out w7 hb7)
                | (go_at_call 36
                   refine (HSI.out w7 v7 hb7 hr7).mono ?_
                   rintro e w8 ⟨rfl, k8, rfl⟩
                   have q8 := HC7.out (w7.drewN k8) (below_drewN hb7 k8)))
            have HPZ := Lib.hid (HPE.out.below (below_drewN hb7 k8))
            clear hb7 hr7
            go_wp2
            go_roundw
            case rel => first | exact ⟨k + 1, _, _, _, _, _, _, by go_num, by omega, HPZ⟩ | ((repeat apply Exists.intro); exact ⟨⟨k + 1, _, _, _, _, _, _, by go_num, by omega, HPZ⟩, rfl⟩)
            case measure => simp [intOf]; omega
          · have b0 : (wk == 0) = false := by rw [beq_eq_false_iff_ne]; exact hw0
            have b1 : (wk == 1) = false := by rw [beq_eq_false_iff_ne]; exact hw1
            have b2 : (wk == 2) = false := by rw [beq_eq_false_iff_ne]; exact hw2
            obtain ⟨w6, rfl⟩ : ∃ w6 : World, w6 = w4 := ⟨_, rfl⟩
            obtain ⟨l6, rfl⟩ : ∃ l6 : List Int, l6 = l := ⟨_, rfl⟩
            have HP6 := Lib.hid (HP4.out.up)
            have HX6 := HX4
            clear hw0 hw1 hw2
            have g1 : w6.cell? ⟨gc, 1, none⟩ = some (.int .i64 x) := cell_of_block HX6.out
            have HPE := Lib.hid (HP6.out.below (Below.refl _ _).drew)
            obtain ⟨ar, cr, hr0, _, _, _, _, hrr, _⟩ := HPE.out.ref.read
            have HRR := Lib.hid hrr
            have HH := Lib.hid (qHas x w6.drew HPE.out.h F2.out)
            have HRH := Lib.hid (rhHasT x w6.drew HPE.out.ref (by have := HPE.out.len; omega) HPE.out.mem)
            have HLI := Lib.hid (qList l6 w6.drew HPE.out.h (by omega) HPE.out.rise HPE.out.mem)
            have HSI := Lib.hid (fun (w7 : World) (v : Value) (hb : Below w6.drew.heap.size w6.drew w7) (hr : RowS w7 1 v l6.length (intC l6)) => sameInts_eq l6 v _ w7 hr (HRR.out.keeps (Keeps.of_below hb (Nat.le_refl _) []) fun _ _ => List.not_mem_nil) (by have := HPE.out.len; omega))
            have HC7 := Lib.hid (fun (w7 : World) (hb : Below w6.drew.heap.size w6.drew w7) => (show w7.cell? ⟨gc, 1, none⟩ = some (.int .i64 x) ∧ w7.cell? ⟨r, 0, none⟩ = some (.slice ar l6.length cr) from ⟨(hb.cell (p := ⟨gc, 1, none⟩) (Array.getElem?_eq_some_iff.1 HX6.out).1).trans g1, (hb.cell (p := ⟨r, 0, none⟩) (HPE.out.ref.lt r (by simp))).trans hr0⟩))
            clear hrr
            go_wp2_with fail
            go_region_held3 (fun w' => w'.cell? ⟨gc, 1, none⟩ = some (.int .i64 x) ∧ w'.cell? ⟨r, 0, none⟩ = some (.slice ar l6.length cr))
              (first | go_keep | exact q7 | exact q8)
              (first
                | (go_at_call 21
                   refine HH.out.mono ?_
                   rintro e w7 ⟨rfl, rfl⟩)
                | (go_at_call 49
                   refine HRH.out.mono ?_
                   rintro e w7 ⟨rfl, rfl⟩)
                | (go_at_call 44
                   refine (HLI.out).mono ?_
                   rintro e w7 ⟨v7, rfl, hr7, _, hb7⟩
                   have q7 := HC7.out w7 hb7)
                | (go_at_call 36
                   refine (HSI.out w7 v7 hb7 hr7).mono ?_
                   rintro e w8 ⟨rfl, k8, rfl⟩
                   have q8 := HC7.out (w7.drewN k8) (below_drewN hb7 k8)))
            have HPZ := Lib.hid (HPE.out.below (below_drewN hb7 k8))
            clear hb7 hr7
            go_wp2
            go_roundw
            case rel => first | exact ⟨k + 1, _, _, _, _, _, _, by go_num, by omega, HPZ⟩ | ((repeat apply Exists.intro); exact ⟨⟨k + 1, _, _, _, _, _, _, by go_num, by omega, HPZ⟩, rfl⟩)
            case measure => simp [intOf]; omega
    · obtain rfl : k = len0 := by omega
      have HBF := Lib.hid hlp.out.bel
      clear hlt
      go_wp2
      go_ret
      exact ⟨rfl, by rw [← HBE.out]; exact HBF.out⟩
/-- what is told of the argument 0 -/
def leastPlays.arg0 (w : World) (a : Option Addr) (len cap : Nat) : Prop := ∃ F : Nat → Nat → Value, Rows w a len cap 2 F ∧ ∀ i, i < len → ((∃ n : Int, (F i) 0 = .int .i64 n ∧ (Lit.int .i64 n).wf = true) ∧ (∃ n : Int, (F i) 1 = .int .i64 n ∧ (Lit.int .i64 n).wf = true))
theorem leastPlays.walk (a0 : Option Addr) (len0 cap0 : Nat) (w : World) (w0 : leastPlays.arg0 w a0 len0 cap0) :
    Calls Try.prog 13 #[.slice a0 len0 cap0] w fun e w' => e = .returned (.bool true) ∧ Below w.heap.size w w' := by
  obtain ⟨F, hR, hF⟩ := w0
  have hle := hR.le
  have hmx := hR.max
  by_cases ho : 200 < len0
  · exact leastPlays.out a0 len0 cap0 w ho (by omega)
  obtain ⟨wy, h0⟩ := pick (fun i hi => (hF i hi).1)
  obtain ⟨nn, h1⟩ := pick (fun i hi => (hF i hi).2)
  refine leastPlays.inside a0 len0 cap0 wy nn w (by omega) fun i hi => ⟨⟨(h0 i hi).2, (h1 i hi).2⟩, ?_⟩
  obtain ⟨b, off, ha, hb, e0⟩ := hR.cell i 0 hi (by omega)
  obtain ⟨b1, off1, ha1, _, e1⟩ := hR.cell i 1 hi (by omega)
  rw [ha] at ha1
  cases ha1
  rw [(h0 i hi).1] at e0
  rw [(h1 i hi).1] at e1
  exact ⟨b, off, ha, hb, e0, e1⟩
end Go.Proofs.Ytogifanooleppaa

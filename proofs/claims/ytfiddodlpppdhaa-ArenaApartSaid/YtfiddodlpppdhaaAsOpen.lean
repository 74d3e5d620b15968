/- arena's open and opens compute what they say. -/
import Derived.Test.YtfiddodlpppdhaaAsGreat
namespace Go.Proofs.Ytfiddodlpppdhaa
open Go.RowKit Go.Maps
set_option linter.unusedVariables false
theorem clsOf_small {s : Nat} (h : small5 s) : clsOf ((s : Int) - 1) = (clsN s : Int) := by
  unfold small5 at h
  rcases h with rfl | rfl | rfl | rfl | rfl <;> decide
theorem clsOf_large {s : Nat} (h : 64 ≤ s) : clsOf ((s : Int) - 1) = 5 := by
  unfold clsOf
  rw [if_neg (by omega), if_neg (by omega), if_neg (by omega), if_neg (by omega), if_neg (by omega)]
theorem updO_twice {α : Type} (f : Nat → Option α) (x : Nat) (u v : Option α) : updO (updO f x u) x v = updO f x v := by
  funext y
  unfold updO
  split <;> rfl
section
variable {w w' : World} {B : Nat → Prop} {pa K : Nat} {A : Ar}
/-- how open ends -/
def OpDone (B : Nat → Prop) (pa K : Nat) (own : Nat → Nat) (A' : Ar) (w : World) (en : Ending) (w' : World) : Prop :=
  en = .returned (.tuple #[]) ∧ ∃ I' own', ArAt w' pa I' own' K A' ∧ (∀ g, g < w.heap.size → own' g = own g) ∧ (∀ g, own' g ≠ 0 → ¬ B g) ∧ Bel B w w' ∧ ∀ g, g < w.heap.size → own g = 4 → w'.heap[g]? = w.heap[g]?
set_option maxRecDepth 100000 in
set_option maxHeartbeats 2000000 in
theorem open_at (x : Nat) (b : BlkT) (w : World) (I : ArIds) (own : Nat → Nat) (hat : ArAt w pa I own K A) (hown : ∀ g, own g ≠ 0 → ¬ B g) (hBs : Fits B w) (ok : ArOk A) (hb : A.B x = some b) (hst : b.st = 2) :
    Calls Try.prog 46 #[.pointer (some ⟨pa, 0, none⟩), .int .i64 (x : Nat)] w (OpDone B pa K own (openA A x) w) := by
  obtain ⟨g1, g2, g3, g4, g5⟩ := ok.blk x b hb
  have hN := ok.n
  obtain ⟨_, _, _, c3, _⟩ := hat.cells
  obtain ⟨d0, _, _, _, fd2⟩ := hat.bcells hb
  have hxw : (Lit.int .i64 (x : Int)).wf = true := WalkArith.wf_i64 (by omega)
  have hlk := hat.map.look ar_key Try.underlying3 Try.underlying53 (ar_zero w) hxw
  rw [mapP_some hb] at hlk
  simp only [Option.getD_some] at hlk
  have h1 := hat.setBlk hb (b' := { b with st := 3 }) (i := 2) (u := .int .i64 3) rfl
  have k1 : Keeps [I.blk x] w (w.setCell ⟨I.blk x, 2, none⟩ (.int .i64 3)) := keeps_set w (I.blk x) 2 (.int .i64 3)
  have hbel1 : Bel B w (w.setCell ⟨I.blk x, 2, none⟩ (.int .i64 3)) := keeps_below k1 hown hBs fun y hy => by
    simp at hy
    rw [hy, hat.tblk x b hb]; omega
  have hBs1 : Fits B (w.setCell ⟨I.blk x, 2, none⟩ (.int .i64 3)) := Fits.le hBs k1.size
  have HOF := Lib.hid (fun w => of_any ((b.size : Int) - 1) w)
  have hne : ¬ (I.blk x = pa) := fun e => by
    have t1 := hat.tpa
    have t2 := hat.tblk x b hb
    rw [e] at t2
    omega
  have hltpa := hat.lt_pa
  have hltb := hat.lt_blk hb
  have hs1 : 1 ≤ b.size := by
    rcases g4 with ⟨h, _⟩ | ⟨h, _⟩
    · exact (small_at h).1
    · omega
  have hsz : IntKind.i64.wrap ((b.size : Int) - 1) = (b.size : Int) - 1 := IntWalk.i64_in _ (by omega)
  have HTB := Lib.hid (hat.tblk x b hb)
  by_cases hs : b.size ≤ 32
  · have h5 : small5 b.size := by
      rcases g4 with ⟨h, _⟩ | ⟨h, _⟩
      · exact h
      · omega
    rw [clsOf_small h5] at HOF
    have HE : Hid (OpDone B pa K own (openA A x) w = OpDone B pa K own { A with B := updO A.B x (some { b with st := 3 }), F := updF A.F (clsN b.size) x true } w) := Lib.hid (show OpDone B pa K own (openA A x) w = _ from by rw [openA_small hb hs])
    have hc5 : clsN b.size < 5 := (small_at h5).2.2.2.2.2
    have hf : A.F (clsN b.size) x = false := by
      cases hf : A.F (clsN b.size) x with
      | false => rfl
      | true =>
        obtain ⟨d, e1, _, _, e2⟩ := ok.free _ x hf
        rw [hb] at e1
        cases e1
        omega
    have hcnt := ok.cnt (clsN b.size)
    obtain ⟨w1, hw1⟩ : ∃ w1, w1 = w.setCell ⟨I.blk x, 2, none⟩ (.int .i64 3) := ⟨_, rfl⟩
    rw [← hw1] at h1 k1 hbel1 hBs1
    obtain ⟨l, hrow, hheap, hnd, hmem⟩ := h1.rowAt hc5
    have hl : l.length ≤ 262144 := hcnt l hnd hmem
    have hf1 : ({ A with B := updO A.B x (some { b with st := 3 }) } : Ar).F (clsN b.size) x = false := hf
    have HPUSH := Lib.hid (heapPush_any (x : Int) w1 hrow hheap (by omega))
    have HK := Lib.hid (fun (w4 : World) (hq : PushDone w1 pa (4 + clsN b.size) 57 (arCells I { A with B := updO A.B x (some { b with st := 3 }) }) (I.rv (clsN b.size)).ownBlock (l ++ [(x : Int)]) w4) => h1.pushed hc5 hf1 hnd hmem hq)
    have HROW := Lib.hid (h1.trow _ hc5)
    have HPA := Lib.hid h1.tpa
    have HO1 := Lib.hid (And.intro hown (And.intro hBs1 hbel1))
    obtain ⟨c, hc⟩ : ∃ c, c = clsN b.size := ⟨_, rfl⟩
    rw [← hc] at HPUSH HK HROW HOF HE hc5
    have hi0 : (0 : Int) ≤ (c : Int) := by omega
    have hi1 : (c : Int) < 5 := by omega
    have hne5 : ((c : Int) == 5) = false := by rw [beq_eq_false_iff_ne]; omega
    rw [hw1] at HPUSH
    have HW1 := Lib.hid hw1
    rw [HE.out]
    clear HE h1 k1 hbel1 hBs1 hrow hheap hnd hmem hl hf1 hf hcnt hat hown hBs ok hb hst g1 g2 g3 g4 g5 hN hc h5 hs hs1 hw1
    go_enter Try.func46, Try.ntmps46
    go_wp2_with fail
    refine (HOF.out _).mono ?_
    rintro e w2 ⟨rfl, rfl⟩
    go_wp2_with fail
    refine HPUSH.out.mono ?_
    rintro e w4 ⟨rfl, hq⟩
    rw [← HW1.out] at hq
    obtain ⟨v, h4, hk4⟩ := HK.out w4 hq
    have HFIN : Hid (OpDone B pa K own { A with B := updO A.B x (some { b with st := 3 }), F := updF A.F c x true } w (.returned (.tuple #[])) w4) := Lib.hid (show OpDone B pa K own { A with B := updO A.B x (some { b with st := 3 }), F := updF A.F c x true } w (.returned (.tuple #[])) w4 from by
      obtain ⟨hown, hBs1, hbel1⟩ := HO1.out
      have hbel4 : Bel B w1 w4 := keeps_below hk4 hown hBs1 fun y hy => by
        rcases List.mem_cons.1 hy with rfl | hy
        · rw [HPA.out]; decide
        · rw [HROW.out y (by simpa using hy)]; omega
      have e1 : w1.heap.size = w.heap.size := by rw [HW1.out]; simp
      refine ⟨rfl, _, _, h4, fun g hg => newOwn_old (by rw [e1]; exact hg), newOwn_base hown hBs1, hbel1.trans hbel4, fun g hg ht => ?_⟩
      rw [hk4.block g (by rw [e1]; exact hg) (fun hm => by
        rcases List.mem_cons.1 hm with hm | hm
        · rw [hm, HPA.out] at ht; omega
        · rw [HROW.out g (by simpa using hm)] at ht; omega), HW1.out]
      exact setCell_other _ (fun e => by rw [e, HTB.out] at ht; omega))
    clear hq h4 hk4
    go_wp2
    go_end0
    exact HFIN.out
  · have h64 : 64 ≤ b.size := by
      rcases g4 with ⟨h, _⟩ | ⟨h, _⟩
      · have := (small_at h).2.1; omega
      · exact h
    rw [clsOf_large h64] at HOF
    have HE : Hid (OpDone B pa K own (openA A x) w = OpDone B pa K own { A with B := updO A.B x none, T := givenT A.T ((x / 64 : Nat) : Int) } w) := Lib.hid (show OpDone B pa K own (openA A x) w = _ from by rw [openA_large hb hs])
    obtain ⟨q, hq⟩ : ∃ q, q = x / 64 := ⟨_, rfl⟩
    have hdiv : Int.tdiv (x : Int) 64 = (q : Int) := by rw [Int.tdiv_eq_ediv_of_nonneg (by omega)]; omega
    have hdiv2 : (x : Int) / 64 = (q : Int) := by omega
    have hqw : IntKind.i64.wrap (q : Int) = (q : Int) := IntWalk.i64_in _ (by omega)
    have hi0 : (0 : Int) ≤ (x : Int) := by omega
    obtain ⟨_, e1, _, e3, _⟩ := h1.cells
    obtain ⟨w1, hw1⟩ : ∃ w1, w1 = w.setCell ⟨I.blk x, 2, none⟩ (.int .i64 3) := ⟨_, rfl⟩
    have HG := Lib.hid (pgive_any (q : Int) _ h1.tab (WalkArith.wf_i64 (by omega)))
    obtain ⟨_, f1, _⟩ := hat.cells
    rw [← hw1] at h1 k1 hbel1 hBs1
    have H1 := Lib.hid h1
    have HO1 := Lib.hid (And.intro hown (And.intro hBs1 hbel1))
    have HW1 := Lib.hid hw1
    have HXW := Lib.hid hxw
    have HQ := Lib.hid hq
    rw [HE.out]
    rw [← hq]
    clear HE h1 k1 hbel1 hBs1 hat hown hBs ok hb hst g1 g2 g3 g4 g5 hN hs hs1 hw1 h64 hq e1 e3
    go_enter Try.func46, Try.ntmps46
    go_wp2_with fail
    refine (HOF.out _).mono ?_
    rintro e w2 ⟨rfl, rfl⟩
    go_wp2_with fail
    refine HG.out.mono ?_
    rintro e w3 ⟨rfl, ht3, hk3⟩
    rw [← HW1.out] at hk3
    have h3 := H1.out.turnTab (Nat.le_refl _) ht3 hk3
    have hbel3 : Bel B w1 w3 := keeps_below hk3 HO1.out.1 HO1.out.2.1 fun y hy => by
      obtain ⟨_, _, t3, t4⟩ := H1.out.ttab
      simp at hy
      rcases hy with rfl | rfl
      · rw [t3]; decide
      · rw [t4]; decide
    have HBS3 := Lib.hid (Fits.le HO1.out.2.1 hk3.size)
    have HK3 := Lib.hid hk3
    have H3 := Lib.hid h3
    have HB3 := Lib.hid hbel3
    obtain ⟨_, _, _, e3, _⟩ := h3.cells
    clear h3 hbel3 ht3 hk3
    go_wp2_with (at_delete; refine wpList_drop (by rfl) (.tmp 37) (.tmp 38) 53 3 rfl 61 ar_key Try.underlying3 Try.underlying53 I.mb K _ rfl H3.out.map (x : Nat) rfl HXW.out ?_)
    intro w4 hm4 hg4
    have HFIN : Hid (OpDone B pa K own { A with B := updO A.B x none, T := givenT A.T (q : Int) } w (.returned (.tuple #[])) w4) := Lib.hid (show OpDone B pa K own { A with B := updO A.B x none, T := givenT A.T (q : Int) } w (.returned (.tuple #[])) w4 from by
      have hk4 : Keeps [I.mb] w3 w4 := Keeps.of_grown hg4 (by simp)
      have h4 := H3.out.delBlk (x := x) hm4 hk4
      have hbel4 : Bel B w3 w4 := keeps_below hk4 HO1.out.1 HBS3.out fun y hy => by
        simp at hy
        rw [hy, H3.out.tmap]; decide
      dsimp only at h4
      rw [updO_twice] at h4
      have e1 : w1.heap.size = w.heap.size := by rw [HW1.out]; simp
      refine ⟨rfl, _, _, h4, fun g hg => rfl, HO1.out.1, (HO1.out.2.2.trans HB3.out).trans hbel4, fun g hg ht => ?_⟩
      rw [hk4.block g (Nat.lt_of_lt_of_le (by rw [e1]; exact hg) HK3.out.size) (fun hm => by
        simp at hm
        rw [hm, H3.out.tmap] at ht; omega), HK3.out.block g (by rw [e1]; exact hg) (fun hm => by
        obtain ⟨_, _, t3, t4⟩ := H1.out.ttab
        simp at hm
        rcases hm with hm | hm
        · rw [hm, t3] at ht; omega
        · rw [hm, t4] at ht; omega), HW1.out]
      exact setCell_other _ (fun e => by rw [e, HTB.out] at ht; omega))
    clear hm4 hg4
    go_wp2
    go_end0
    exact HFIN.out
/-- opens: where the loop stands -/
def OsAt (B : Nat → Prop) (pa K : Nat) (A : Ar) (l : List Int) (a : Option Addr) (cap : Nat) (w : World) (k : Nat) (wr : World) : Prop :=
  ∃ A1 I own, ArAt wr pa I own K A1 ∧ (∀ g, own g ≠ 0 → ¬ B g) ∧ Fits B wr ∧ ArOk A1 ∧ OpenOk A1 (l.drop k) ∧ opensA A1 (l.drop k) = opensA A l ∧ Bel B w wr ∧ RowS wr 1 (.slice a l.length cap) l.length (intC l) ∧ ∀ g, (Value.slice a l.length cap).ownBlock = some g → own g = 4
/-- how opens ends -/
def OsDone (B : Nat → Prop) (pa K : Nat) (A' : Ar) (w : World) (en : Ending) (w' : World) : Prop := en = .returned (.tuple #[]) ∧ ArS B w' pa K A' ∧ ArOk A' ∧ Bel B w w'
theorem row_cellR {w : World} {a : Option Addr} {n cap : Nat} {S : List Int} (h : RowS w 1 (.slice a n cap) n (intC S)) (hn : n = S.length) {k : Nat} (hk : k < n) : ∃ g off, a = some ⟨g, off, none⟩ ∧ g < w.heap.size ∧ w.cell? ⟨g, off + k, none⟩ = some (.int .i64 (hg S k)) := by
  obtain ⟨a', cap', e, _, _, _, hc⟩ := h.read
  cases e
  obtain ⟨b, off, rfl, h1, h2⟩ := hc k _ (intC_at (hg_some (l := S) (by omega)))
  exact ⟨b, off, rfl, h1, h2⟩
set_option maxRecDepth 100000 in
set_option maxHeartbeats 2000000 in
theorem opens_at (l : List Int) (a : Option Addr) (cap : Nat) (w : World) (I : ArIds) (own : Nat → Nat) (hat : ArAt w pa I own K A) (hown : ∀ g, own g ≠ 0 → ¬ B g) (hBs : Fits B w) (ok : ArOk A) (ho : OpenOk A l)
    (hr : RowS w 1 (.slice a l.length cap) l.length (intC l)) (h4 : ∀ g, (Value.slice a l.length cap).ownBlock = some g → own g = 4) :
    Calls Try.prog 29 #[.pointer (some ⟨pa, 0, none⟩), .slice a l.length cap] w (OsDone B pa K (opensA A l) w) := by
  have HS : Hid (OsAt B pa K A l a cap w 0 w) := Lib.hid (show OsAt B pa K A l a cap w 0 w from ⟨A, I, own, hat, hown, hBs, ok, by rw [List.drop_zero]; exact ho, by rw [List.drop_zero], Bel.refl _ _, hr, h4⟩)
  obtain ⟨n, hn⟩ : ∃ n, n = l.length := ⟨_, rfl⟩
  have HN := Lib.hid hn
  rw [← hn]
  have hlm : n ≤ 262144 := by
    rw [hn]
    refine length_le_of_nodup 262144 ho.1 fun x hx => ?_
    obtain ⟨_, k, b, rfl, hb, _⟩ := ho.2 x hx
    have := ok.size_pos hb
    have := ok.n.2
    omega
  clear hat hown hBs ok ho hr h4 hn
  go_enter Try.func29, Try.ntmps29
  go_wp2_with fail
  go_loopw [8] (fun i wr => ∃ k : Nat, i = .int .i64 (k : Nat) ∧ k ≤ n ∧ Hid (OsAt B pa K A l a cap w k wr)) (fun i _ => n - (intOf i).toNat)
  case atStart => exact ⟨0, rfl, Nat.zero_le _, HS⟩
  case round =>
    obtain ⟨k, rfl, hk, hp⟩ := hrel
    obtain ⟨wo, rfl⟩ : ∃ wo : World, wo = wr := ⟨_, rfl⟩
    by_cases hlt : k < n
    · obtain ⟨A1, I1, own1, h1, h2, h3, ok1, ho1, he1, hb1, hr1, h41⟩ := hp.out
      have hkl : k < l.length := by have := HN.out; omega
      obtain ⟨g, off, rfl, hg1, hcell⟩ := row_cellR hr1 rfl hkl
      have hdrop : l.drop k = hg l k :: l.drop (k + 1) := by
        rw [List.drop_eq_getElem_cons hkl]
        congr 1
        have := hg_some hkl
        rw [List.getElem?_eq_getElem hkl] at this
        exact Option.some.inj this
      rw [hdrop] at ho1 he1
      obtain ⟨x, b, hx, hbx, hst, hxL⟩ := ho1.head
      rw [hx] at ho1 he1 hcell
      have HOP := Lib.hid (open_at (B := B) x b wo I1 own1 h1 h2 h3 ok1 hbx hst)
      have HK : Hid (∀ w2, OpDone B pa K own1 (openA A1 x) wo (.returned (.tuple #[])) w2 → OsAt B pa K A l (some ⟨g, off, none⟩) cap w (k + 1) w2) := Lib.hid (show ∀ w2, OpDone B pa K own1 (openA A1 x) wo (.returned (.tuple #[])) w2 → OsAt B pa K A l (some ⟨g, off, none⟩) cap w (k + 1) w2 from fun w2 ⟨_, I2, own2, q1, q2, q3, q4, q5⟩ => by
        have q6 : w2.heap[g]? = wo.heap[g]? := q5 g hg1 (h41 g rfl)
        refine ⟨openA A1 x, I2, own2, q1, q3, Fits.le h3 (Bel.size q4), ok1.open_ hbx hst hxL, ho1.step, ?_, hb1.trans q4, ?_, fun g' hg' => ?_⟩
        · rw [← he1]
          show _ = opensA (openA A1 (x : Int).toNat) _
          rw [Int.toNat_natCast]
        · refine hr1.keeps (l := (List.range wo.heap.size).filter (fun y => y != g)) ⟨q4.os, q4.tape, q4.output, q4.size, fun y hy hny => ?_⟩ (fun g' hg' => ?_)
          · by_cases e : y = g
            · rw [e]; exact q6
            · exact absurd (List.mem_filter.2 ⟨List.mem_range.2 hy, by simpa using e⟩) hny
          · cases hg'
            intro hm
            have := (List.mem_filter.1 hm).2
            simp at this
        · have := h41 g' hg'
          cases hg'
          rw [q2 g hg1]; exact this)
      have hi0 : (0 : Int) ≤ (k : Int) := by omega
      have hi1 : (k : Int) < (n : Int) := by omega
      clear h1 h2 h3 ok1 ho1 he1 hb1 hr1 h41 hx hbx hst hxL hdrop hp
      go_wp2_with fail
      refine HOP.out.mono ?_
      rintro e w2 ⟨rfl, hq⟩
      have HF := Lib.hid (HK.out w2 ⟨rfl, hq⟩)
      clear hq
      go_wp2
      go_roundw
      case rel => first | exact ⟨k + 1, by go_num, by omega, HF⟩ | ((repeat apply Exists.intro); exact ⟨⟨k + 1, by go_num, by omega, HF⟩, rfl⟩)
      case measure => simp [intOf]; omega
    · obtain rfl : k = n := by omega
      have HF : Hid (OsDone B pa K (opensA A l) w (.returned (.tuple #[])) wo) := Lib.hid (show OsDone B pa K (opensA A l) w (.returned (.tuple #[])) wo from by
        obtain ⟨A1, I1, own1, h1, h2, h3, ok1, ho1, he1, hb1, hr1, h41⟩ := hp.out
        rw [HN.out, List.drop_length] at he1
        have he1 : A1 = opensA A l := he1
        rw [← he1]
        exact ⟨rfl, ⟨_, _, h1, h2, h3⟩, ok1, hb1⟩)
      clear hp hlt
      go_wp2
      go_end0
      exact HF.out
end
end Go.Proofs.Ytfiddodlpppdhaa

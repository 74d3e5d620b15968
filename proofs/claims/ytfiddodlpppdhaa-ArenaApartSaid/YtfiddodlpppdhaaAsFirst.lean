/- arena's first computes what it says. -/
import Derived.Test.YtfiddodlpppdhaaAs2
namespace Go.Proofs.Ytfiddodlpppdhaa
open Go.RowKit Go.Maps
set_option linter.unusedVariables false
section
variable {w w' : World} {B : Nat → Prop} {pa K : Nat} {A : Ar}
/-- first's loop -/
def FrAt (B : Nat → Prop) (pa K c : Nat) (A : Ar) (w : World) (gk : Nat) (wr : World) : Prop := ∃ A1, ArS B wr pa K A1 ∧ ArOk A1 ∧ (∀ r A', FirstR c A1 r A' → FirstR c A r A') ∧ Bel B w wr ∧ CntF (A1.F c) gk
/-- how first ends -/
def firstV : Option Nat → Value
  | none => .tuple #[.int .i64 0, .bool false]
  | some x => .tuple #[.int .i64 (x : Nat), .bool true]
def FrDone (B : Nat → Prop) (pa K c : Nat) (A : Ar) (w : World) (en : Ending) (w' : World) : Prop := ∃ r A', en = .returned (firstV r) ∧ FirstR c A r A' ∧ ArS B w' pa K A' ∧ ArOk A' ∧ Bel B w w'
set_option maxRecDepth 100000 in
set_option maxHeartbeats 2000000 in
theorem first_at (c : Nat) (hc : c < 5) (w : World) (h : ArS B w pa K A) (ok : ArOk A) :
    Calls Try.prog 44 #[.pointer (some ⟨pa, 0, none⟩), .int .i64 (c : Nat)] w (FrDone B pa K c A w) := by
  have HS : Hid (FrAt B pa K c A w 262144 w) := Lib.hid (show FrAt B pa K c A w 262144 w from ⟨A, h, ok, fun _ _ hr => hr, Bel.refl _ _, ok.cnt c⟩)
  have HC := Lib.hid hc
  have hc0 : (0 : Int) ≤ (c : Int) := by omega
  have hc5 : (c : Int) < 5 := by omega
  clear h ok
  go_enter Try.func44, Try.ntmps44
  go_wp2_with fail
  go_loopg [] 262144 (fun gk wr => Hid (FrAt B pa K c A w gk wr))
  case atStart => exact HS
  case round =>
    obtain ⟨wo, rfl⟩ : ∃ wo : World, wo = wr := ⟨_, rfl⟩
    obtain ⟨A1, ⟨I, own, hat, hown, hBs⟩, ok1, hrun, hbel, hcnt⟩ := hrel.out
    obtain ⟨l, hrow, hheap, hnd, hmem⟩ := hat.rowAt HC.out
    obtain ⟨a, cap, c0, hcs, _⟩ := hrow.read
    have hl : l.length ≤ 262144 := ok1.cnt c l hnd hmem
    have hml := m_len pa (4 + c) (.slice a l.length cap) wo c0
    cases hlen : l.length with
    | zero =>
      have h0 : l = [] := List.length_eq_zero_iff.1 hlen
      have HD : Hid (FrDone B pa K c A w (.returned (firstV none)) wo) := Lib.hid (show FrDone B pa K c A w (.returned (firstV none)) wo from by
        refine ⟨none, A1, rfl, hrun _ _ (.none _ fun x => ?_), ⟨I, own, hat, hown, hBs⟩, ok1, hbel⟩
        cases hf : A1.F c x with
        | false => rfl
        | true =>
          have := (hmem x).2 ⟨x, rfl, hf⟩
          rw [h0] at this
          cases this)
      rw [hlen] at c0 hml
      clear hat hown hBs ok1 hrun hbel hcnt hrow hheap hnd hmem hcs hl h0 hlen hrel
      go_wp2_with fail
      refine (rowLen_any _ _ _ _).mono ?_
      rintro e w0 ⟨rfl, rfl⟩
      go_wp2
      go_ret2
      exact HD.out
    | succ n =>
      have hx0 : hg l 0 ∈ l := List.mem_of_getElem? (hg_some (l := l) (k := 0) (by omega))
      obtain ⟨x, hx, hfx⟩ := (hmem _).1 hx0
      obtain ⟨b, hb, hb1, hb2, hb3⟩ := ok1.free c x hfx
      have hpos := ok1.size_pos hb
      have hpop := heapPop_any n wo hrow hheap hlen (by omega)
      rw [hx] at hpop
      rw [hlen] at c0 hml
      have hgt : decide ((0 : Int) < ((n + 1 : Nat) : Int)) = true := by rw [decide_eq_true_iff]; omega
      have HPOP := Lib.hid hpop
      have HLEAST : Hid (LeastF A1 c x) := Lib.hid (show LeastF A1 c x from by
        refine ⟨hfx, fun y hy => ?_⟩
        obtain ⟨k, hk⟩ := List.getElem?_of_mem ((hmem y).2 ⟨y, rfl, hy⟩)
        have hkl := (List.getElem?_eq_some_iff.1 hk).1
        have h1 := hheap.least k hkl
        have h2 : hg l k = (y : Int) := by unfold hg; rw [hk]; rfl
        omega)
      have HGK : Hid (1 ≤ gk) := Lib.hid (show 1 ≤ gk from by have := hcnt l hnd hmem; omega)
      have HK1 := Lib.hid (fun (w1 : World) (hp : PopDone wo pa (4 + c) 57 (arCells I A1) (I.rv c).ownBlock l w1) => hat.popped HC.out hx hnd hmem hp)
      have HO := Lib.hid (And.intro hown hBs)
      have HROW := Lib.hid (hat.trow c HC.out)
      have HPA := Lib.hid hat.tpa
      have HB := Lib.hid hb
      have HF := Lib.hid hfx
      have HPOS := Lib.hid hpos
      have HOK := Lib.hid ok1
      have HRUN := Lib.hid hrun
      have HBEL := Lib.hid hbel
      have HCNT := Lib.hid hcnt
      have hxw : (Lit.int .i64 (x : Int)).wf = true := by
        have := hpos.2.1
        have := ok1.n.2
        exact WalkArith.wf_i64 (by omega)
      clear hpop hat hown hBs ok1 hrun hbel hcnt hrow hheap hnd hmem hcs hl hlen hrel hx0 hx hfx hb hb1 hb2 hb3 hpos
      go_wp2_with fail
      refine (rowLen_any _ _ _ _).mono ?_
      rintro e w0 ⟨rfl, rfl⟩
      go_wp2_with fail
      refine HPOP.out.mono ?_
      rintro e w1 ⟨rfl, hp⟩
      obtain ⟨v, h1, hk⟩ := HK1.out w1 hp
      have hbel1 : Bel B wo w1 := keeps_below hk HO.out.1 HO.out.2 fun y hy => by
        rcases List.mem_cons.1 hy with rfl | hy
        · rw [HPA.out]; decide
        · rw [HROW.out y (by simpa using hy)]; omega
      have hown1 := newOwn_base (t := 6 + c) HO.out.1 HO.out.2
      have hBs1 : Fits B w1 := Fits.le HO.out.2 hk.size
      have HL2 := Lib.hid hbel1
      clear hbel1 hk hp HK1 HPOP
      generalize ({ I with rv := fun d => if d = c then v else I.rv d } : ArIds) = I2 at h1
      obtain ⟨A2, hA2⟩ : ∃ A2 : Ar, A2 = { A1 with F := updF A1.F c x false } := ⟨_, rfl⟩
      have hB2 : A2.B x = some b := by rw [hA2]; exact HB.out
      have hN2 : x + b.size ≤ 64 * A2.N := by rw [hA2]; exact HPOS.out.2.1
      have ok2 : ArOk A2 := by rw [hA2]; exact HOK.out.popF c x
      have hcn2 : ∀ d, d + 1 = gk → CntF (A2.F c) d := fun d hd => by rw [hA2]; exact CntF.pop (hd ▸ HCNT.out) HF.out
      rw [← hA2] at h1
      have HIT : Hid (wholeA A2 x b → ∀ w2, ArS B w2 pa K A2 → Bel B w1 w2 → FrDone B pa K c A w (.returned (firstV (some x))) w2) := Lib.hid (show wholeA A2 x b → ∀ w2, ArS B w2 pa K A2 → Bel B w1 w2 → FrDone B pa K c A w (.returned (firstV (some x))) w2 from fun hw w2 hs hb2 => by
        refine ⟨some x, A2, rfl, HRUN.out _ _ ?_, hs, ok2, ?_⟩
        · rw [hA2]
          rw [hA2] at hw
          exact .hit A1 x b HLEAST.out HB.out hw
        · exact (HBEL.out.trans HL2.out).trans hb2)
      have MISS : Hid (¬ wholeA A2 x b → ∀ w2, ArS B w2 pa K { A2 with B := updO A2.B x (some { b with st := 4 }), bad := A2.bad + 1 } → Bel B w1 w2 → FrAt B pa K c A w (gk - 1) w2) := Lib.hid (show ¬ wholeA A2 x b → ∀ w2, ArS B w2 pa K { A2 with B := updO A2.B x (some { b with st := 4 }), bad := A2.bad + 1 } → Bel B w1 w2 → FrAt B pa K c A w (gk - 1) w2 from fun hw w2 hs hb2 => by
        refine ⟨_, hs, ?_, fun r A' hr => HRUN.out _ _ ?_, (HBEL.out.trans HL2.out).trans hb2, hcn2 _ (by have := HGK.out; omega)⟩
        · rw [hA2]; exact HOK.out.badB HB.out HF.out
        · rw [hA2] at hr hw
          exact .miss A1 A' x b r HLEAST.out HB.out hw hr)
      have hbad := ok2.bad_lt
      obtain ⟨_, _, _, c3, c9, f9⟩ := h1.cells
      obtain ⟨d0, d1, d2, fd1, fd2⟩ := h1.bcells hB2
      have hlk := h1.map.look ar_key Try.underlying3 Try.underlying53 (ar_zero w1) hxw
      rw [mapP_some hB2] at hlk
      simp only [Option.getD_some] at hlk
      have HWH := Lib.hid (whole_at x b w1 h1 hB2 hN2 HPOS.out.1 ok2.n.2)
      have has := assert_int (.int .i64 (x : Int)) w1
      have hne : ¬ (I2.blk x = pa) := fun e => by
        have t1 := h1.tpa
        have t2 := h1.tblk x b hB2
        rw [e] at t2
        omega
      have hw9 : IntKind.i64.wrap ((A2.bad : Int) + 1) = ((A2.bad + 1 : Nat) : Int) := by rw [IntWalk.i64_in _ (by omega)]; omega
      have HAT := Lib.hid h1
      have HOWN := Lib.hid (And.intro hown1 hBs1)
      have HB2 := Lib.hid hB2
      have hlt1 := h1.lt_pa
      have hlt2 := h1.lt_blk hB2
      have HWI : Hid (wholeD A2 x b = true ↔ wholeA A2 x b) := Lib.hid (wholeD_iff (by have := ok2.n.2; omega))
      clear hN2 ok2 hcn2 hA2 h1 hown1 hBs1 hB2 HOK HRUN HBEL HCNT HF HB HPOS HLEAST HO HROW HPA d0 d1 fd1 hml c0
      unfold WholeDone at HWH
      cases hwd : wholeD A2 x b with
      | true =>
        have HW := Lib.hid (HWI.out.1 hwd)
        rw [hwd] at HWH
        clear hwd MISS HWI
        go_wp2_with fail
        refine HWH.out.mono ?_
        rintro e w2 ⟨rfl, k, rfl⟩
        go_wp2
        go_ret2
        exact HIT.out HW.out _ ⟨I2, _, HAT.out.drewN k, HOWN.out.1, HOWN.out.2⟩ (((Keeps.refl [] w1).drewN k).bel HOWN.out.2 fun y hy => absurd hy List.not_mem_nil)
      | false =>
        have HW : Hid (¬ wholeA A2 x b) := Lib.hid (show ¬ wholeA A2 x b from fun h => by rw [HWI.out.2 h] at hwd; cases hwd)
        rw [hwd] at HWH
        clear hwd HIT HWI
        go_wp2_with fail
        refine HWH.out.mono ?_
        rintro e w2 ⟨rfl, k, rfl⟩
        go_wp2
        have HFIN : Hid (FrAt B pa K c A w (gk - 1) (((w1.drewN k).setCell ⟨I2.blk x, 2, none⟩ (.int .i64 4)).setCell ⟨pa, 9, none⟩ (.int .i64 ((A2.bad + 1 : Nat) : Int)))) := Lib.hid (by
          have k1 : Keeps [I2.blk x, pa] w1 (((w1.drewN k).setCell ⟨I2.blk x, 2, none⟩ (.int .i64 4)).setCell ⟨pa, 9, none⟩ (.int .i64 ((A2.bad + 1 : Nat) : Int))) :=
            (((Keeps.refl _ w1).drewN k).setCell (p := ⟨I2.blk x, 2, none⟩) (.inl (by simp)) _).setCell (p := ⟨pa, 9, none⟩) (.inl (by simp)) _
          have h2 := ((HAT.out.drewN k).setBlk HB2.out (b' := { b with st := 4 }) (i := 2) (u := .int .i64 4) rfl).setBad (A2.bad + 1)
          refine MISS.out HW.out _ ⟨I2, _, h2, HOWN.out.1, ?_⟩ (k1.bel HOWN.out.2 fun y hy => ?_)
          · exact Fits.le HOWN.out.2 k1.size
          · simp only [List.mem_cons, List.not_mem_nil, or_false] at hy
            rcases hy with rfl | rfl
            · exact HOWN.out.1 _ (by rw [HAT.out.tblk x b HB2.out]; omega)
            · exact HOWN.out.1 _ (by rw [HAT.out.tpa]; omega))
        go_roundg (gk - 1)
        case measure => have := HGK.out; omega
        case rel => first | exact HFIN | ((repeat apply Exists.intro); exact ⟨HFIN, rfl⟩)
end
end Go.Proofs.Ytfiddodlpppdhaa

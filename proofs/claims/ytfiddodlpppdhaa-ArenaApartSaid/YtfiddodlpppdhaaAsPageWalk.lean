/- arena's page: the walk. -/
import Derived.Test.YtfiddodlpppdhaaAsPlain
namespace Go.Proofs.Ytfiddodlpppdhaa
open Go.RowKit Go.Maps
set_option linter.unusedVariables false
section
variable {w w' : World} {B : Nat → Prop} {pa K : Nat} {A : Ar}
/-- page's loop -/
def PgAt (B : Nat → Prop) (pa K c s p j : Nat) (A : Ar) (w wr : World) : Prop := ArS B wr pa (K + 1 + j) (pageS A c s p j) ∧ Bel B w wr
/-- how page ends -/
def PgDone (B : Nat → Prop) (pa K c s : Nat) (A : Ar) (w : World) (en : Ending) (w' : World) : Prop :=
  (en = .returned (.bool false) ∧ RunIs A.N (usedB A.T) 1 (-1) ∧ w = w') ∨
  ∃ p : Nat, en = .returned (.bool true) ∧ RunIs A.N (usedB A.T) 1 (p : Int) ∧ ArS B w' pa (K + 33) (pageA A c s p) ∧ ArOk (pageA A c s p) ∧ Bel B w w'
theorem blocksOf_small {s : Nat} (h : small5 s) : blocksOf (s : Int) = ((64 / s : Nat) : Int) := by
  unfold small5 at h
  rcases h with rfl | rfl | rfl | rfl | rfl <;> rfl
set_option maxRecDepth 100000 in
set_option maxHeartbeats 2000000 in
theorem page_at (s : Nat) (hs : small5 s) (w : World) (h : ArS B w pa K A) (ok : ArOk A) (hK : K ≤ 1099511627776) :
    Calls Try.prog 45 #[.pointer (some ⟨pa, 0, none⟩), .int .i64 (clsN s : Nat), .int .i64 (s : Nat)] w (PgDone B pa K (clsN s) s A w) := by
  obtain ⟨s1, s2, s3, s4, s5, s6⟩ := small_at hs
  have HPS : Hid (∀ p j, 1 ≤ p → p < A.N → A.T p = none → j * s ≤ 64 → ArOk (pageS A (clsN s) s p j)) := Lib.hid (show ∀ p j, 1 ≤ p → p < A.N → A.T p = none → j * s ≤ 64 → ArOk (pageS A (clsN s) s p j) from fun p j h1 h2 h3 h4 => ok.pageS hs h1 h2 h3 h4)
  have HBL : Hid (∀ w, Calls Try.prog 57 #[.int .i64 (s : Nat)] w fun e w' => e = .returned (.int .i64 ((64 / s : Nat) : Int)) ∧ w = w') := Lib.hid (show ∀ w, Calls Try.prog 57 #[.int .i64 (s : Nat)] w fun e w' => e = .returned (.int .i64 ((64 / s : Nat) : Int)) ∧ w = w' from fun w => by rw [← blocksOf_small hs]; exact blocks_any s w)
  obtain ⟨c, hc⟩ : ∃ c, c = clsN s := ⟨_, rfl⟩
  obtain ⟨I, own, hat, hown, hBs⟩ := h
  obtain ⟨_, c1, _⟩ := hat.cells
  rw [← hc] at s6 HPS ⊢
  have hwc : IntKind.i64.wrap ((c : Int) + 1) = ((c + 1 : Nat) : Int) := by rw [IntWalk.i64_in _ (by omega)]; omega
  have HTK := Lib.hid (ptake_at 1 1 ((c + 1 : Nat) : Int) w hat.tab (.inl ⟨by omega, rfl⟩) (by omega) (by omega) (WalkArith.wf_i64 (by omega)))
  have HAT := Lib.hid hat
  have HO := Lib.hid (And.intro hown hBs)
  have HN := Lib.hid ok.n
  have HS := Lib.hid (And.intro hs s4)
  have HNI : Hid (∀ p x b, A.T p = none → A.B x = some b → x / 64 ≠ p) := Lib.hid (show ∀ p x b, A.T p = none → A.B x = some b → x / 64 ≠ p from fun p x b h1 h2 => ok.notIn h1 h2)
  have HFR := Lib.hid ok.free
  clear hat hown hBs ok hs s3 s4 s5 hc
  obtain ⟨M, hM⟩ : ∃ M, M = 64 / s := ⟨_, rfl⟩
  rw [← hM] at HBL
  have HMM := Lib.hid hM
  have hM32 : M ≤ 64 := by rw [hM]; exact Nat.div_le_self _ _
  clear hM
  go_enter Try.func45, Try.ntmps45
  go_wp2_with fail
  refine HTK.out.mono ?_
  rintro e w1 (⟨rfl, hr, rfl⟩ | ⟨p, rfl, hr, ht, hk⟩)
  · have HR := Lib.hid hr
    clear hr
    go_wp2
    go_ret
    exact .inl ⟨rfl, HR.out, rfl⟩
  · have HR := Lib.hid hr
    have hrp := hr.at_
    obtain ⟨hp1, hpT⟩ := used_none (hrp.2 p (Nat.le_refl _) (by omega))
    have hpN : p < A.N := by have := hrp.1; omega
    have h1 := HAT.out.turnTab (by omega) ht hk
    have hbel1 : Bel B w w1 := keeps_below hk HO.out.1 HO.out.2 fun y hy => by
      obtain ⟨_, _, t3, t4⟩ := HAT.out.ttab
      simp at hy
      rcases hy with rfl | rfl
      · rw [t3]; decide
      · rw [t4]; decide
    have HP0 : Hid (PgAt B pa K c s p 0 A w w1) := Lib.hid (show PgAt B pa K c s p 0 A w w1 from by
      refine ⟨⟨I, own, ?_, HO.out.1, Fits.le HO.out.2 hk.size⟩, hbel1⟩
      unfold pageS
      rw [pageB_zero, pageF_zero]
      exact h1)
    have hpn : p ≤ 4096 := by have := HN.out; omega
    have HPN := Lib.hid (And.intro hp1 (And.intro hpN hpT))
    have hwf1 : (Lit.int .i64 (p : Int)).wf = true := WalkArith.wf_i64 (by omega)
    clear hr hrp ht hk h1 hbel1 hp1 hpT hpN c1 hwc
    go_wp2_with fail
    refine (HBL.out _).mono ?_
    rintro e w2 ⟨rfl, rfl⟩
    go_wp2_with fail
    go_loopw [21] (fun i wr => ∃ j : Nat, i = .int .i64 (j : Nat) ∧ j ≤ M ∧ Hid (PgAt B pa K c s p j A w wr)) (fun i _ => M - (intOf i).toNat)
    case atStart => exact ⟨0, rfl, Nat.zero_le _, HP0⟩
    case round =>
      obtain ⟨j, rfl, hj, hp⟩ := hrel
      obtain ⟨wo, rfl⟩ : ∃ wo : World, wo = wr := ⟨_, rfl⟩
      by_cases hlt : j < M
      · obtain ⟨⟨I2, own2, hat2, hown2, hBs2⟩, hbel2⟩ := hp.out
        obtain ⟨_, _, _, c3, _⟩ := hat2.cells
        obtain ⟨y, hy⟩ : ∃ y, y = 64 * p := ⟨_, rfl⟩
        obtain ⟨z, hz⟩ : ∃ z, z = j * s := ⟨_, rfl⟩
        obtain ⟨x, hx⟩ : ∃ x, x = y + z := ⟨_, rfl⟩
        have hz64 : z + s ≤ 64 := by
          have e1 : (j + 1) * s ≤ M * s := Nat.mul_le_mul_right _ (by omega)
          rw [Nat.succ_mul, HMM.out, HS.out.2] at e1
          omega
        have hw1 : IntKind.i64.wrap ((p : Int) * 64) = (y : Int) := by rw [IntWalk.i64_in _ (by omega)]; omega
        have hw2 : IntKind.i64.wrap ((j : Int) * (s : Int)) = (z : Int) := by
          have : (j : Int) * (s : Int) = ((j * s : Nat) : Int) := by push_cast; rfl
          rw [this, ← hz, IntWalk.i64_in _ (by omega)]
        have hw3 : IntKind.i64.wrap ((y : Int) + (z : Int)) = (x : Int) := by rw [IntWalk.i64_in _ (by omega)]; omega
        have hxw : (Lit.int .i64 (x : Int)).wf = true := WalkArith.wf_i64 (by omega)
        have HXW := Lib.hid hxw
        have HML : Hid (K + 1 + j < maxLen) := Lib.hid (show K + 1 + j < maxLen by unfold maxLen; omega)
        have HA2 := Lib.hid hat2
        have HO2 := Lib.hid (And.intro hown2 hBs2)
        have HB2 := Lib.hid hbel2
        have HXE : Hid (x = 64 * p + j * s) := Lib.hid (show x = 64 * p + j * s by omega)
        have hi0 : (0 : Int) ≤ (c : Int) := by omega
        have hi1 : (c : Int) < 5 := by omega
        have HC := Lib.hid s6
        have hltpa := hat2.lt_pa
        have hjM : (j : Int) < (M : Int) := by omega
        clear hat2 hown2 hBs2 hbel2 hp hxw hy hz hx hz64
        go_wp2_with (at_mapUpdate; refine wpList_store (by rfl) (.tmp 33) (.tmp 34) (.tmp 37) 53 rfl 3 61 ar_key Try.underlying3 Try.underlying53 I2.mb (K + 1 + j) _ rfl (HA2.out.map.keeps ((Keeps.refl [] wo).alloc _) List.not_mem_nil) HML.out (x : Nat) (.pointer (some ⟨wo.heap.size, 0, none⟩)) rfl rfl HXW.out ?_)
        intro w3 hm3 hg3
        have hlm := HA2.out.map.lt
        have hk3 : Keeps [I2.mb] wo w3 := ((Keeps.refl [I2.mb] wo).alloc _).trans (Keeps.of_grown hg3 (by simp))
        have hb3 := (Keeps.of_grown hg3 (l := [I2.mb]) (by simp)).at (heap_alloc_at wo _) (by simp; omega)
        have h3 := HA2.out.newBlk (b := ⟨s, 0, 0⟩) (Nat.le_refl _) hb3 hm3 (by omega) hk3
        have hbel3 : Bel B wo w3 := keeps_below hk3 HO2.out.1 HO2.out.2 fun y hy => by
          simp at hy
          rw [hy, HA2.out.tmap]; decide
        have hown3 := newOwn_base (t := 11 + x) HO2.out.1 HO2.out.2
        have hBs3 : Fits B w3 := Fits.le HO2.out.2 hk3.size
        have hj1 : (j + 1) * s ≤ 64 := by
          have e1 : (j + 1) * s ≤ M * s := Nat.mul_le_mul_right _ (by omega)
          rw [HMM.out, HS.out.2] at e1
          exact e1
        have hj0 : j * s ≤ 64 := Nat.le_trans (Nat.mul_le_mul_right _ (by omega)) hj1
        have hf3 : (pageS A c s p j).F c x = false := by
          cases hf : (pageS A c s p j).F c x with
          | false => rfl
          | true =>
            have hf : pageF A.F c p s j c x = true := hf
            unfold pageF at hf
            have hxe := HXE.out
            split at hf
            · omega
            · obtain ⟨b, hb, _⟩ := HFR.out c x hf
              have := HNI.out p x b HPN.out.2.2 hb
              rw [Nat.succ_mul] at hj1
              omega
        have okS := HPS.out p j HPN.out.1 HPN.out.2.1 HPN.out.2.2 hj0
        have hcnt := okS.cnt c
        obtain ⟨l, hrow, hheap, hnd, hmem⟩ := h3.rowAt HC.out
        have hl : l.length ≤ 262144 := hcnt l hnd hmem
        have HPUSH := Lib.hid (heapPush_any (x : Int) w3 hrow hheap (by omega))
        have HK := Lib.hid (fun (w4 : World) (hq : PushDone w3 pa (4 + c) 57 (arCells { I2 with blk := fun y => if y = x then wo.heap.size else I2.blk y } { pageS A c s p j with B := updO (pageS A c s p j).B x (some ⟨s, 0, 0⟩) }) (I2.rv c).ownBlock (l ++ [(x : Int)]) w4) => h3.pushed HC.out hf3 hnd hmem hq)
        have HO3 := Lib.hid (And.intro hown3 hBs3)
        have HROW := Lib.hid (h3.trow c HC.out)
        have HPA := Lib.hid h3.tpa
        have HB3 := Lib.hid hbel3
        clear hm3 hg3 hk3 hb3 h3 hbel3 hown3 hBs3 hf3 hrow hheap hnd hmem hl hcnt hj1 hj0 hlm okS
        go_wp2_with fail
        refine HPUSH.out.mono ?_
        rintro e w4 ⟨rfl, hq⟩
        obtain ⟨v, h4, hk4⟩ := HK.out w4 hq
        have HFIN : Hid (PgAt B pa K c s p (j + 1) A w w4) := Lib.hid (show PgAt B pa K c s p (j + 1) A w w4 from by
          have hbel4 : Bel B w3 w4 := keeps_below hk4 HO3.out.1 HO3.out.2 fun y hy => by
            rcases List.mem_cons.1 hy with rfl | hy
            · rw [HPA.out]; decide
            · rw [HROW.out y (by simpa using hy)]; omega
          have e5 : ({ pageS A c s p j with B := updO (pageS A c s p j).B x (some ⟨s, 0, 0⟩), F := updF (pageS A c s p j).F c x true } : Ar) = pageS A c s p (j + 1) := by
            unfold pageS
            rw [pageB_succ _ _ _ _ s1, pageF_succ _ _ _ _ _ s1, ← HXE.out]
          unfold PgAt
          rw [← e5]
          exact ⟨⟨_, _, h4, newOwn_base HO3.out.1 HO3.out.2, Fits.le HO3.out.2 hk4.size⟩, (HB2.out.trans HB3.out).trans hbel4⟩)
        clear hq h4 hk4
        go_wp2
        go_roundw
        case rel => first | exact ⟨j + 1, by go_num, by omega, HFIN⟩ | ((repeat apply Exists.intro); exact ⟨⟨j + 1, by go_num, by omega, HFIN⟩, rfl⟩)
        case measure => simp [intOf]; omega
      · obtain rfl : j = M := by omega
        have HFIN : Hid (PgDone B pa K c s A w (.returned (.bool true)) wo) := Lib.hid (show PgDone B pa K c s A w (.returned (.bool true)) wo from by
          refine .inr ⟨p, rfl, HR.out, ?_, ?_, hp.out.2⟩
          · obtain ⟨I2, own2, h2, h3⟩ := hp.out.1
            refine ⟨I2, own2, ?_, h3⟩
            have := h2.mono (K' := K + 33) (by
              have hh := HS.out.1
              have hm := HMM.out
              unfold small5 at hh
              rcases hh with rfl | rfl | rfl | rfl | rfl <;> omega)
            unfold pageS at this
            rw [HMM.out] at this
            exact this
          · have := HPS.out p (64 / s) HPN.out.1 HPN.out.2.1 HPN.out.2.2 (by rw [HS.out.2]; exact Nat.le_refl _)
            exact this)
        clear hp hlt
        go_wp2
        go_ret
        exact HFIN.out
end
end Go.Proofs.Ytfiddodlpppdhaa

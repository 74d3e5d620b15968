/- arena's great and take compute what they say. -/
import Derived.Test.YtfiddodlpppdhaaAsPageWalk
namespace Go.Proofs.Ytfiddodlpppdhaa
open Go.RowKit Go.Maps
set_option linter.unusedVariables false
section
variable {w w' : World} {B : Nat → Prop} {pa K : Nat} {A : Ar}
/-- how great ends -/
def GtDone (B : Nat → Prop) (pa K s : Nat) (A : Ar) (w : World) (en : Ending) (w' : World) : Prop :=
  (en = .returned (firstV none) ∧ RunIs A.N (usedB A.T) (s / 64) (-1) ∧ w = w') ∨
  ∃ p : Nat, en = .returned (firstV (some (64 * p))) ∧ RunIs A.N (usedB A.T) (s / 64) (p : Int) ∧ ArS B w' pa (K + s / 64 + 1) (greatA A s p) ∧ Bel B w w'
set_option maxRecDepth 100000 in
set_option maxHeartbeats 2000000 in
theorem great_at (s : Nat) (hs : 64 ≤ s) (hs2 : s ≤ 1048576) (w : World) (h : ArS B w pa K A) (ok : ArOk A) (hK : K ≤ 1099511627776) :
    Calls Try.prog 43 #[.pointer (some ⟨pa, 0, none⟩), .int .i64 (s : Nat)] w (GtDone B pa K s A w) := by
  obtain ⟨I, own, hat, hown, hBs⟩ := h
  obtain ⟨_, c1, _⟩ := hat.cells
  obtain ⟨q, hq⟩ : ∃ q, q = s / 64 := ⟨_, rfl⟩
  have hdiv : Int.tdiv (s : Int) 64 = (q : Int) := by rw [Int.tdiv_eq_ediv_of_nonneg (by omega)]; omega
  have hdiv2 : (s : Int) / 64 = (q : Int) := by omega
  have hqw : IntKind.i64.wrap (q : Int) = (q : Int) := IntWalk.i64_in _ (by omega)
  have HTK := Lib.hid (ptake_at (q : Int) q 6 w hat.tab (by omega) (by omega) (by omega) (WalkArith.wf_i64 (by omega)))
  have HAT := Lib.hid hat
  have HO := Lib.hid (And.intro hown hBs)
  have HN := Lib.hid ok.n
  have hi0 : (0 : Int) ≤ (s : Int) := by omega
  unfold GtDone
  rw [← hq]
  have HQ := Lib.hid hq
  clear hat hown hBs ok hq
  go_enter Try.func43, Try.ntmps43
  go_wp2_with fail
  refine HTK.out.mono ?_
  rintro e w1 (⟨rfl, hr, rfl⟩ | ⟨p, rfl, hr, ht, hk⟩)
  · have HR := Lib.hid hr
    clear hr
    go_wp2
    go_ret2
    exact .inl ⟨rfl, HR.out, rfl⟩
  · have HR := Lib.hid hr
    have hrp := hr.at_
    have hpn : p ≤ 4096 := by have := HN.out; have := hrp.1; omega
    have h1 := HAT.out.turnTab (by omega) ht hk
    have hbel1 : Bel B w w1 := keeps_below hk HO.out.1 HO.out.2 fun y hy => by
      obtain ⟨_, _, t3, t4⟩ := HAT.out.ttab
      simp at hy
      rcases hy with rfl | rfl
      · rw [t3]; decide
      · rw [t4]; decide
    obtain ⟨x, hx⟩ : ∃ x, x = 64 * p := ⟨_, rfl⟩
    have hw1 : IntKind.i64.wrap ((p : Int) * 64) = (x : Int) := by rw [IntWalk.i64_in _ (by omega)]; omega
    have HXW : Hid ((Lit.int .i64 (x : Int)).wf = true) := Lib.hid (show (Lit.int .i64 (x : Int)).wf = true from WalkArith.wf_i64 (by omega))
    have HML : Hid (K + q < maxLen) := Lib.hid (show K + q < maxLen by unfold maxLen; have := HQ.out; omega)
    obtain ⟨_, _, _, c3, _⟩ := h1.cells
    have H1 := Lib.hid h1
    have HB1 := Lib.hid hbel1
    have HBS1 := Lib.hid (Fits.le HO.out.2 hk.size)
    have HXE := Lib.hid hx
    have hwf1 : (Lit.int .i64 (p : Int)).wf = true := WalkArith.wf_i64 (by omega)
    clear hr hrp ht hk h1 hbel1 c1 hx
    go_wp2_with (at_mapUpdate; refine wpList_store (by rfl) (.tmp 22) (.tmp 23) (.tmp 26) 53 rfl 3 61 ar_key Try.underlying3 Try.underlying53 I.mb (K + q) _ rfl (H1.out.map.keeps ((Keeps.refl [] w1).alloc _) List.not_mem_nil) HML.out (x : Nat) (.pointer (some ⟨w1.heap.size, 0, none⟩)) rfl rfl HXW.out ?_)
    intro w3 hm3 hg3
    have HFIN : Hid (GtDone B pa K s A w (.returned (firstV (some x))) w3) := Lib.hid (show GtDone B pa K s A w (.returned (firstV (some x))) w3 from by
      have hlm := H1.out.map.lt
      have hk3 : Keeps [I.mb] w1 w3 := ((Keeps.refl [I.mb] w1).alloc _).trans (Keeps.of_grown hg3 (by simp))
      have hb3 := (Keeps.of_grown hg3 (l := [I.mb]) (by simp)).at (heap_alloc_at w1 _) (by simp; omega)
      have h3 := H1.out.newBlk (b := ⟨s, 0, 0⟩) (Nat.le_refl _) hb3 hm3 (by omega) hk3
      have hbel3 : Bel B w1 w3 := keeps_below hk3 HO.out.1 HBS1.out fun y hy => by
        simp at hy
        rw [hy, H1.out.tmap]; decide
      have hS : ArS B w3 pa (K + q + 1) _ := ⟨_, _, h3, newOwn_base (t := 11 + x) HO.out.1 HBS1.out, Fits.le HBS1.out hk3.size⟩
      have eg : greatA A s p = { A with T := putT A.T p q 6 q, B := updO A.B x (some ⟨s, 0, 0⟩) } := by unfold greatA; rw [← HXE.out, ← HQ.out]
      refine .inr ⟨p, by rw [HXE.out], by rw [← HQ.out]; exact HR.out, ?_, HB1.out.trans hbel3⟩
      rw [eg, ← HQ.out]
      exact hS)
    clear hm3 hg3
    go_wp2
    go_ret2
    have := HFIN.out
    unfold GtDone at this
    rw [← HQ.out] at this
    exact this
/-- how take ends -/
def TkDone (B : Nat → Prop) (pa K c s : Nat) (A : Ar) (w : World) (en : Ending) (w' : World) : Prop := ∃ r A', en = .returned (firstV r) ∧ TakeR c s A r A' ∧ ArS B w' pa (K + 33 + s / 64) A' ∧ Bel B w w'
theorem ArS.mono (h : ArS B w pa K A) {K' : Nat} (hK : K ≤ K') : ArS B w pa K' A := by
  obtain ⟨I, own, h1, h2⟩ := h
  exact ⟨I, own, h1.mono hK, h2⟩
set_option maxRecDepth 100000 in
set_option maxHeartbeats 2000000 in
theorem take_great (s : Nat) (hs : 64 ≤ s) (hs2 : s ≤ 1048576) (w : World) (h : ArS B w pa K A) (ok : ArOk A) (hK : K ≤ 1099511627776) :
    Calls Try.prog 28 #[.pointer (some ⟨pa, 0, none⟩), .int .i64 5, .int .i64 (s : Nat)] w (TkDone B pa K 5 s A w) := by
  have HG := Lib.hid (great_at s hs hs2 w h ok hK)
  have H := Lib.hid h
  clear h ok
  go_enter Try.func28, Try.ntmps28
  go_wp2_with fail
  refine HG.out.mono ?_
  rintro e w1 (⟨rfl, hr, rfl⟩ | ⟨p, rfl, hr, h1, h2⟩)
  · have HF : Hid (TkDone B pa K 5 s A w (.returned (firstV none)) w) := Lib.hid (show TkDone B pa K 5 s A w (.returned (firstV none)) w from ⟨none, A, rfl, .noGreat A rfl hr, H.out.mono (by omega), Bel.refl _ _⟩)
    clear hr
    dsimp only [firstV]
    go_wp2
    go_ret2
    exact HF.out
  · have HF : Hid (TkDone B pa K 5 s A w (.returned (firstV (some (64 * p)))) w1) := Lib.hid (show TkDone B pa K 5 s A w (.returned (firstV (some (64 * p)))) w1 from ⟨some (64 * p), _, rfl, .great A p rfl hr, h1.mono (by omega), h2⟩)
    clear hr h1 h2
    dsimp only [firstV]
    go_wp2
    go_ret2
    exact HF.out
set_option maxRecDepth 100000 in
set_option maxHeartbeats 2000000 in
theorem take_small (s : Nat) (hs : small5 s) (w : World) (h : ArS B w pa K A) (ok : ArOk A) (hK : K ≤ 1099511627776) :
    Calls Try.prog 28 #[.pointer (some ⟨pa, 0, none⟩), .int .i64 (clsN s : Nat), .int .i64 (s : Nat)] w (TkDone B pa K (clsN s) s A w) := by
  obtain ⟨s1, s2, s3, s4, s5, s6⟩ := small_at hs
  have HF1 := Lib.hid (fun (w : World) (K : Nat) (A : Ar) (h : ArS B w pa K A) (ok : ArOk A) => first_at (clsN s) s6 w h ok)
  have HPG := Lib.hid (fun (w : World) (A : Ar) (h : ArS B w pa K A) (ok : ArOk A) => page_at s hs w h ok hK)
  obtain ⟨c, hc⟩ : ∃ c, c = clsN s := ⟨_, rfl⟩
  rw [← hc] at s6 HF1 HPG ⊢
  have hne : ((c : Int) == 5) = false := by rw [beq_eq_false_iff_ne]; omega
  have HC := Lib.hid s6
  have H := Lib.hid (HF1.out w K A h ok)
  clear h ok hs hc s1 s2 s3 s4 s5 s6
  go_enter Try.func28, Try.ntmps28
  go_wp2_with fail
  refine H.out.mono ?_
  rintro e w1 ⟨r, A1, rfl, hr, h1, ok1, hb1⟩
  cases r with
  | some x =>
    have HF : Hid (TkDone B pa K c s A w (.returned (firstV (some x))) w1) := Lib.hid (show TkDone B pa K c s A w (.returned (firstV (some x))) w1 from ⟨some x, _, rfl, .first A A1 x HC.out hr, h1.mono (by omega), hb1⟩)
    clear hr h1 ok1 hb1
    dsimp only [firstV]
    go_wp2
    go_ret2
    exact HF.out
  | none =>
    have HP := Lib.hid (HPG.out w1 A1 h1 ok1)
    have HNP : Hid (RunIs A1.N (usedB A1.T) 1 (-1) → TkDone B pa K c s A w (.returned (firstV none)) w1) := Lib.hid (show RunIs A1.N (usedB A1.T) 1 (-1) → TkDone B pa K c s A w (.returned (firstV none)) w1 from fun h => ⟨none, _, rfl, .noPage A A1 HC.out hr h, h1.mono (by omega), hb1⟩)
    have HYP : Hid (∀ p w2 r A2 w3, RunIs A1.N (usedB A1.T) 1 (p : Nat) → FirstR c (pageA A1 c s p) r A2 → ArS B w3 pa (K + 33) A2 → Bel B w1 w2 → Bel B w2 w3 → TkDone B pa K c s A w (.returned (firstV r)) w3) := Lib.hid (show ∀ p w2 r A2 w3, RunIs A1.N (usedB A1.T) 1 (p : Nat) → FirstR c (pageA A1 c s p) r A2 → ArS B w3 pa (K + 33) A2 → Bel B w1 w2 → Bel B w2 w3 → TkDone B pa K c s A w (.returned (firstV r)) w3 from fun p w2 r A2 w3 q1 q2 q3 q4 q5 => ⟨r, A2, rfl, .page A A1 A2 p r HC.out hr q1 q2, q3.mono (by omega), (hb1.trans q4).trans q5⟩)
    clear hr h1 ok1 hb1
    dsimp only [firstV]
    go_wp2_with fail
    refine HP.out.mono ?_
    rintro e w2 (⟨rfl, hr2, rfl⟩ | ⟨p, rfl, hr2, h2, ok2, hb2⟩)
    · have HF := Lib.hid (HNP.out hr2)
      clear hr2
      go_wp2
      go_ret2
      exact HF.out
    · have H2 := Lib.hid (HF1.out w2 (K + 33) _ h2 ok2)
      have HR2 := Lib.hid (And.intro hr2 hb2)
      clear hr2 h2 ok2 hb2
      go_wp2_with fail
      refine H2.out.mono ?_
      rintro e w3 ⟨r3, A3, rfl, hr3, h3, ok3, hb3⟩
      have HF := Lib.hid (HYP.out p w2 r3 A3 w3 HR2.out.1 hr3 h3 HR2.out.2 hb3)
      clear hr3 h3 ok3 hb3
      cases r3 with
      | none =>
        dsimp only [firstV]
        go_wp2
        go_ret2
        exact HF.out
      | some x =>
        dsimp only [firstV]
        go_wp2
        go_ret2
        exact HF.out
theorem take_at (c s : Nat) (hs : SizeOk c s) (hs2 : s ≤ 1048576) (w : World) (h : ArS B w pa K A) (ok : ArOk A) (hK : K ≤ 1099511627776) :
    Calls Try.prog 28 #[.pointer (some ⟨pa, 0, none⟩), .int .i64 (c : Nat), .int .i64 (s : Nat)] w (TkDone B pa K c s A w) := by
  rcases hs with ⟨h1, rfl⟩ | ⟨rfl, h1, _⟩
  · exact take_small s h1 w h ok hK
  · exact take_great s h1 hs2 w h ok hK
end
end Go.Proofs.Ytfiddodlpppdhaa

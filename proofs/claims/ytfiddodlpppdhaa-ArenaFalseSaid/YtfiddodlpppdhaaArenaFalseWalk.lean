/- The walk of the law ArenaFalse: it answers true for every input. -/
import Derived.Test.YtfiddodlpppdhaaAsGrow
import Derived.Test.YtfiddodlpppdhaaOpen
namespace Go.Proofs.Ytfiddodlpppdhaa
open Go.RowKit Go.Maps
set_option linter.unusedVariables false
theorem szI_bd {n : Nat} (h1 : 32 ≤ n) (h2 : n ≤ 100) : szI n ≤ 192 := by unfold szI szOf pagesOf; omega
section
variable {n : Nat} {A A' : Ar}
/-- a new arena's first block -/
theorem AllocR.firstAny {N bud : Nat} {r : Option Nat} (h : AllocR n (newA N bud) r A') (h1 : 1 ≤ n) (h2 : n ≤ 100) (hN : 8 ≤ N) (hN2 : N ≤ 4096) : ∃ x, r = some x ∧ Fine (fun _ => True) A' ∧ A'.N = N ∧ liveB A' = updO (fun _ => none) x (some ⟨szI n, n, 1⟩) := by
  have f : Fine (fun _ => True) (newA N bud) := Fine.new ⟨by omega, hN2⟩
  obtain ⟨f', e1, e2, e3, e4⟩ := h.fine f h1 (by omega) trivial
  cases r with
  | some x =>
    obtain ⟨q1, q2, q3⟩ := e4 x rfl
    exact ⟨x, rfl, f', e1, q2⟩
  | none =>
    exfalso
    by_cases h31 : n ≤ 31
    · have := (h.firstSmall h1 h31 (by omega) hN2).1
      cases this
    · obtain ⟨hso, hns, _⟩ := sizeOk_of h1 (show n ≤ 65536 by omega)
      have hb := szI_bd (n := n) (by omega) h2
      have hc : clsI n = 5 ∧ 64 ≤ szI n := by
        rcases hso with ⟨g, _⟩ | ⟨g, g2, _⟩
        · have := (small_at g).2.1; omega
        · exact ⟨g, g2⟩
      have hp : RunIs (newA N bud).N (usedB (newA N bud).T) (szI n / 64) ((1 : Nat) : Int) := .inr ⟨1, rfl, ⟨by show 1 + szI n / 64 ≤ N; omega, fun j h1 h2 => by
        unfold usedB
        show (decide (j = 0) || (none : Option RunT).isSome) = false
        simp; omega⟩, fun j hj q => by
        have := q.2 j (Nat.le_refl _) (by omega)
        obtain rfl : j = 0 := by omega
        simp [usedB] at this⟩
      cases h with
      | full A1 _ ht ht2 =>
        cases ht with
        | noGreat _ hr => have := hr.unique hp; omega
        | noPage _ hc' _ _ => omega
        | page _ _ p' hc' _ _ _ => omega
end
theorem upd_live {A : Ar} {x : Nat} {b : BlkT} (ok : ArOk A) (h : liveB A = updO (fun _ => none) x (some b)) : natI (liveL A) = [(x : Int)] := by
  have : liveL A = [x] := rise_eq suchL_rise (List.pairwise_singleton _ _) fun y => by
    rw [mem_liveL ok, h, List.mem_singleton]
    unfold updO
    split
    · next e => exact ⟨fun _ => e, fun _ => by simp⟩
    · next e => exact ⟨fun h => absurd rfl h, fun h => absurd h e⟩
  rw [this]
  rfl
set_option maxRecDepth 100000 in
set_option maxHeartbeats 1000000 in
theorem arenaFalse.out (a0 a1 a2 : Int) (w : World) (hd : ¬ (1 ≤ a0 ∧ a0 ≤ 100)) :
    Calls Try.prog 9 #[.int .i64 a0, .int .i64 a1, .int .i64 a2] w fun e w' => e = .returned (.bool true) ∧ Below w.heap.size w w' := by
  go_enter Try.func9, Try.ntmps9
  go_wp2_with (first | (go_at_call 10; refine (alive_any _).mono ?_; rintro e w' ⟨rfl, hb⟩))
  all_goals
    go_ret
    exact ⟨rfl, by assumption⟩
set_option maxRecDepth 100000 in
set_option maxHeartbeats 4000000 in
theorem arenaFalse.into (n : Nat) (a1 a2 : Int) (w : World) (h1 : 1 ≤ n) (h2 : n ≤ 100) (ha1 : (Lit.int .i64 a1).wf = true) :
    Calls Try.prog 9 #[.int .i64 (n : Nat), .int .i64 a1, .int .i64 a2] w fun e w' => e = .returned (.bool true) ∧ Below w.heap.size w w' := by
  have d1 : decide ((n : Int) < 1) = false := by rw [decide_eq_false_iff_not]; omega
  have d2 : decide (100 < (n : Int)) = false := by rw [decide_eq_false_iff_not]; omega
  have HNUM := Lib.hid (fun e w => num_any e w)
  have HNW := Lib.hid (fun w => arNew_at 8 a2 w)
  have H1 := Lib.hid h1
  have H2 := Lib.hid h2
  have HW1 := Lib.hid ha1
  clear h1 h2 ha1
  go_enter Try.func9, Try.ntmps9
  go_wp2_with fail
  refine (alive_any _).mono ?_
  rintro e wa ⟨rfl, hba⟩
  have HBA := Lib.hid hba
  clear hba
  go_wp2_with fail
  refine (HNW.out _).mono ?_
  rintro e wb ⟨pa, rfl, hO, ok, hbb⟩
  have HA0 := Lib.hid (show AtA wa pa 0 (newA (pagesN 8) (budN a2)) wb from ⟨hO, hbb⟩)
  have HAL := Lib.hid (alloc_in n H1.out (Nat.le_trans H2.out (by decide)) wb hO ok (by decide))
  clear hO ok hbb
  go_wp2_with fail
  refine HAL.out.mono ?_
  rintro e w2 ⟨r, A2, rfl, hr, b1, b2, b3⟩
  obtain ⟨x, rfl, f2, n2, l2⟩ := hr.firstAny H1.out H2.out (by decide) (by decide)
  obtain ⟨K, hK⟩ : ∃ K, K = 0 + 2 * (33 + szI n / 64) := ⟨_, rfl⟩
  have hK2 : K ≤ 1048576 := by
    have := (sizeOk_of H1.out (Nat.le_trans H2.out (by decide))).2.2.1
    omega
  rw [← hK] at b1
  have hlx : liveB A2 x = some ⟨szI n, n, 1⟩ := by rw [l2, updO_eq]
  obtain ⟨hBx, hSx⟩ := liveB_some.1 hlx
  obtain ⟨ff, lf, nf, _⟩ := f2.free_ hBx hSx
  have hlf : ∀ y, liveB (freeA A2 x ⟨szI n, n, 1⟩) y = none := fun y => by
    rw [lf, l2]
    unfold updO
    split <;> rfl
  have HA2 := Lib.hid (show AtA wa pa K A2 w2 from HA0.out.bel b1 b3)
  have hxs := (f2.ok.size_pos hBx).2.1
  have hx9 : x < 262144 := by
    have := (f2.ok.size_pos hBx).1
    have : A2.N = 8 := n2
    omega
  have HLV : Hid (∀ wr, AtA wa pa K A2 wr → Calls Try.prog 16 #[.pointer (some ⟨pa, 0, none⟩)] wr (RowDone wr [(x : Int)])) := Lib.hid (show ∀ wr, AtA wa pa K A2 wr → Calls Try.prog 16 #[.pointer (some ⟨pa, 0, none⟩)] wr (RowDone wr [(x : Int)]) from fun wr h => by
    have := live_any wr h.1 f2.ok hK2
    rw [upd_live f2.ok l2] at this
    exact this)
  have HCK : Hid (∀ wr, AtA wa pa K A2 wr → Calls Try.prog 19 #[.pointer (some ⟨pa, 0, none⟩)] wr (RowDone wr [])) := Lib.hid (show ∀ wr, AtA wa pa K A2 wr → Calls Try.prog 19 #[.pointer (some ⟨pa, 0, none⟩)] wr (RowDone wr []) from fun wr h => by
    have := check_any wr h.1 f2.ok hK2
    rw [f2.check] at this
    exact this)
  have HFN : Hid (a1 ≠ (x : Int) → ∀ wr, AtA wa pa K A2 wr → Calls Try.prog 15 #[.pointer (some ⟨pa, 0, none⟩), .int .i64 a1] wr (fun en w' => en = .returned (.int .i64 3) ∧ ∃ k, w' = wr.drewN k)) := Lib.hid (show a1 ≠ (x : Int) → ∀ wr, AtA wa pa K A2 wr → Calls Try.prog 15 #[.pointer (some ⟨pa, 0, none⟩), .int .i64 a1] wr (fun en w' => en = .returned (.int .i64 3) ∧ ∃ k, w' = wr.drewN k) from fun hne wr h => free_no a1 HW1.out wr h.1 fun m b e1 e2 e3 => by
    have : liveB A2 m = some b := liveB_some.2 ⟨e2, e3⟩
    rw [l2, updO_ne _ _ (fun e => hne (by rw [e1, e]))] at this
    cases this)
  have HFR : Hid (∀ wr, AtA wa pa K A2 wr → Calls Try.prog 15 #[.pointer (some ⟨pa, 0, none⟩), .int .i64 (x : Nat)] wr (fun en w' => en = .returned (.int .i64 0) ∧ AtA wa pa K (freeA A2 x ⟨szI n, n, 1⟩) w')) := Lib.hid (show ∀ wr, AtA wa pa K A2 wr → Calls Try.prog 15 #[.pointer (some ⟨pa, 0, none⟩), .int .i64 (x : Nat)] wr (fun en w' => en = .returned (.int .i64 0) ∧ AtA wa pa K (freeA A2 x ⟨szI n, n, 1⟩) w') from fun wr h => by
    refine (free_in x _ wr h.1 f2.ok hBx hSx (f2.use x _ hBx hSx)).mono ?_
    rintro e w5 ⟨rfl, c1, c2⟩
    exact ⟨rfl, h.bel c1 c2⟩)
  obtain ⟨Af, hAf⟩ : ∃ Af, Af = freeA A2 x ⟨szI n, n, 1⟩ := ⟨_, rfl⟩
  rw [← hAf] at HFR hlf ff
  have hxw : (Lit.int .i64 (x : Int)).wf = true := WalkArith.wf_i64 (by omega)
  have hno : ∀ (m : Nat) (b : BlkT), (x : Int) = (m : Int) → Af.B m = some b → b.st ≠ 1 := fun m b e1 e2 => liveB_none.1 (hlf m) b e2
  have HF2 := Lib.hid (fun wr (h : AtA wa pa K Af wr) => free_no (x : Int) hxw wr h.1 hno)
  have HSZ := Lib.hid (fun wr (h : AtA wa pa K Af wr) => size_no (x : Int) hxw wr h.1 hno)
  have HL2 : Hid (∀ wr, AtA wa pa K Af wr → Calls Try.prog 16 #[.pointer (some ⟨pa, 0, none⟩)] wr (RowDone wr [])) := Lib.hid (show ∀ wr, AtA wa pa K Af wr → Calls Try.prog 16 #[.pointer (some ⟨pa, 0, none⟩)] wr (RowDone wr []) from fun wr h => by
    have := live_any wr h.1 ff.ok hK2
    rw [liveL_nil ff.ok hlf] at this
    exact this)
  have HX := Lib.hid hx9
  clear hr b1 b2 b3 f2 n2 l2 hK hK2 hlx hBx hSx ff lf nf hlf hxs hx9 hAf hxw hno
  dsimp only [alV]
  by_cases hax : a1 = (x : Int)
  · subst hax
    have q1 : ((x : Int) == (x : Int)) = true := by simp
    have q2 : ((x : Int) != (x : Int)) = false := by simp
    go_wp2_with (first | (go_at_call 14; refine (HNUM.out _ _).mono ?_; rintro e w5 ⟨rfl, rfl⟩) | fail)
    refine (HFR.out _ HA2.out).mono ?_
    rintro e w6 ⟨rfl, hs6⟩
    have HS6 := Lib.hid hs6
    clear hs6
    go_wp2_with fail
    refine (HF2.out _ HS6.out).mono ?_
    rintro e w7 ⟨rfl, k7, rfl⟩
    go_wp2_with fail
    refine (HSZ.out _ (HS6.out.drewN _)).mono ?_
    rintro e w8 ⟨rfl, k8, rfl⟩
    go_wp2_with (first | (go_at_call 14; refine (HNUM.out _ _).mono ?_; rintro e w5 ⟨rfl, rfl⟩) | fail)
    refine (HL2.out _ (HS6.out.drewN _)).mono ?_
    rintro e w9 ⟨v9, rfl, r9, _, b9⟩
    have HF : Hid (Below w.heap.size w w9) := Lib.hid (show Below w.heap.size w w9 from HBA.out.trans ((HS6.out.drewN _).keep b9 |>.2.mono HBA.out.size))
    obtain ⟨a9, c9, rfl, _⟩ := r9.read
    clear r9 b9
    go_wp2
    go_ret
    exact ⟨rfl, HF.out⟩
  · have q1 : (a1 == (x : Int)) = false := by simpa using hax
    have q2 : (a1 != (x : Int)) = true := by simpa using hax
    have HFN1 := Lib.hid (HFN.out hax)
    clear HFN hax
    go_wp2_with (first | (go_at_call 14; refine (HNUM.out _ _).mono ?_; rintro e w5 ⟨rfl, rfl⟩) | fail)
    refine (HLV.out _ HA2.out).mono ?_
    rintro e w3 ⟨v3, rfl, r3, _, b3⟩
    have HS3 := Lib.hid (HA2.out.keep b3)
    obtain ⟨a3, c3, rfl, _⟩ := r3.read
    have HR3 := Lib.hid r3
    clear r3 b3
    go_wp2_with fail
    refine (HFN1.out _ HS3.out).mono ?_
    rintro e w4 ⟨rfl, k4, rfl⟩
    go_wp2_with (first | (go_at_call 14; refine (HNUM.out _ _).mono ?_; rintro e w5 ⟨rfl, rfl⟩) | fail)
    refine (HLV.out _ (HS3.out.drewN _)).mono ?_
    rintro e w5 ⟨v5, rfl, r5, _, b5⟩
    have HS5 := Lib.hid ((HS3.out.drewN k4).keep b5)
    obtain ⟨a5, c5, rfl, _⟩ := r5.read
    have HSI := Lib.hid (sameInts_eq [(x : Int)] _ _ w5 r5 ((HR3.out.keeps ((Keeps.refl [] w3).drewN k4) (fun _ _ => List.not_mem_nil)).keeps (Keeps.of_below b5 (Nat.le_refl _) []) (fun _ _ => List.not_mem_nil)) (by simp))
    clear r5 b5 HR3
    go_wp2_with fail
    refine HSI.out.mono ?_
    rintro e w6 ⟨rfl, k6, rfl⟩
    go_wp2_with fail
    refine (HCK.out _ (HS5.out.drewN _)).mono ?_
    rintro e wc ⟨vc, rfl, rc, _, bc⟩
    have HSC := Lib.hid ((HS5.out.drewN k6).keep bc)
    obtain ⟨ac, cc, rfl, _⟩ := rc.read
    clear rc bc
    go_wp2_with fail
    refine (HFR.out _ HSC.out).mono ?_
    rintro e w6 ⟨rfl, hs6⟩
    have HS6 := Lib.hid hs6
    clear hs6
    go_wp2_with fail
    refine (HF2.out _ HS6.out).mono ?_
    rintro e w7 ⟨rfl, k7, rfl⟩
    go_wp2_with fail
    refine (HSZ.out _ (HS6.out.drewN _)).mono ?_
    rintro e w8 ⟨rfl, k8, rfl⟩
    go_wp2_with (first | (go_at_call 14; refine (HNUM.out _ _).mono ?_; rintro e w5 ⟨rfl, rfl⟩) | fail)
    refine (HL2.out _ (HS6.out.drewN _)).mono ?_
    rintro e w9 ⟨v9, rfl, r9, _, b9⟩
    have HF : Hid (Below w.heap.size w w9) := Lib.hid (show Below w.heap.size w w9 from HBA.out.trans ((HS6.out.drewN _).keep b9 |>.2.mono HBA.out.size))
    obtain ⟨a9, c9, rfl, _⟩ := r9.read
    clear r9 b9
    go_wp2
    go_ret
    exact ⟨rfl, HF.out⟩
theorem arenaFalse.walk (a0 : Int) (a1 : Int) (a2 : Int) (w : World) (w0 : (Lit.int .i64 a0).wf = true) (w1 : (Lit.int .i64 a1).wf = true) (w2 : (Lit.int .i64 a2).wf = true) :
    Calls Try.prog 9 #[.int .i64 a0, .int .i64 a1, .int .i64 a2] w fun e w' => e = .returned (.bool true) ∧ Below w.heap.size w w' := by
  by_cases h : 1 ≤ a0 ∧ a0 ≤ 100
  · obtain ⟨n, rfl⟩ : ∃ n : Nat, a0 = n := ⟨a0.toNat, by omega⟩
    exact arenaFalse.into n a1 a2 w (by omega) (by omega) w1
  · exact arenaFalse.out a0 a1 a2 w h
end Go.Proofs.Ytfiddodlpppdhaa

/- The walk of the law ArenaSmashed: it answers true for every input. -/
import Derived.Test.YtfiddodlpppdhaaAsSmash
import Derived.Test.YtfiddodlpppdhaaOpen
namespace Go.Proofs.Ytfiddodlpppdhaa
open Go.RowKit Go.Maps
set_option linter.unusedVariables false
theorem upd_live {A : Ar} {x : Nat} {b : BlkT} (ok : ArOk A) (h : liveB A = updO (fun _ => none) x (some b)) : natI (liveL A) = [(x : Int)] := by
  have : liveL A = [x] := rise_eq suchL_rise (List.pairwise_singleton _ _) fun y => by
    rw [mem_liveL ok, h, List.mem_singleton]
    unfold updO
    split
    · next e => exact ⟨fun _ => e, fun _ => by simp⟩
    · next e => exact ⟨fun h => absurd rfl h, fun h => absurd h e⟩
  rw [this]
  rfl
/-- a row of one number, as a walk reads it -/
theorem ARow.one {w0 wr : World} {pa K : Nat} {A : Ar} {v : Value} {x : Int} (h : ARow w0 pa K A v [x] wr) : ∃ g off cap, v = .slice (some ⟨g, off, none⟩) 1 cap := by
  obtain ⟨a, cap, rfl, _, _, _, h4⟩ := h.row.read
  obtain ⟨g, off, rfl, _⟩ := h4 0 (.int .i64 x) rfl
  exact ⟨g, off, cap, rfl⟩
theorem ARow.cell {w0 wr : World} {pa K g off cap : Nat} {A : Ar} {x : Int} (h : ARow w0 pa K A (.slice (some ⟨g, off, none⟩) 1 cap) [x] wr) : wr.cell? ⟨g, off, none⟩ = some (.int .i64 x) := by
  obtain ⟨a, c, e, _, _, _, h4⟩ := h.row.read
  obtain ⟨g', off', rfl, _, h5⟩ := h4 0 (.int .i64 x) rfl
  cases e
  exact h5
theorem ARow.nil {w0 wr : World} {pa K : Nat} {A : Ar} {v : Value} (h : ARow w0 pa K A v [] wr) : ∃ a cap, v = .slice a 0 cap := by
  obtain ⟨a, cap, rfl, _⟩ := h.row.read
  exact ⟨a, cap, rfl⟩
set_option maxRecDepth 100000 in
set_option maxHeartbeats 1000000 in
theorem arenaSmashed.out (a0 a1 a2 : Int) (a3 : Bool) (w : World) (hd : ¬ (1 ≤ a0 ∧ a0 ≤ 31 ∧ 0 ≤ a1 ∧ a1 < szOf a0)) :
    Calls Try.prog 8 #[.int .i64 a0, .int .i64 a1, .int .u64 a2, .bool a3] w fun e w' => e = .returned (.bool true) ∧ Below w.heap.size w w' := by
  go_enter Try.func8, Try.ntmps8
  go_wp2_with (first | (go_at_call 10; refine (alive_any _).mono ?_; rintro e w' ⟨rfl, hb⟩) | (go_at_call 11; refine (ofRef_any _ _).mono ?_; rintro e w' ⟨rfl, rfl⟩))
  all_goals
    go_ret
    exact ⟨rfl, by assumption⟩
set_option maxRecDepth 100000 in
set_option maxHeartbeats 4000000 in
theorem arenaSmashed.into (n off : Nat) (u : Int) (fr : Bool) (w : World) (h1 : 1 ≤ n) (h2 : n ≤ 31) (h3 : off < szI n) (hu : (Lit.int .u64 u).wf = true) :
    Calls Try.prog 8 #[.int .i64 (n : Nat), .int .i64 (off : Nat), .int .u64 u, .bool fr] w fun e w' => e = .returned (.bool true) ∧ Below w.heap.size w w' := by
  have d1 : decide ((n : Int) < 1) = false := by rw [decide_eq_false_iff_not]; omega
  have d2 : decide (31 < (n : Int)) = false := by rw [decide_eq_false_iff_not]; omega
  have d3 : decide ((off : Int) < 0) = false := by rw [decide_eq_false_iff_not]; omega
  have d4 : decide (szI n ≤ off) = false := by rw [decide_eq_false_iff_not]; omega
  obtain ⟨g1, g2, g3⟩ := small_of h1 h2
  have g32 := (small_at g1).2.1
  have g00 := (small_at g1).1
  obtain ⟨_, _, _, hcls, hsz, _, _⟩ := sizeOk_of h1 (show n ≤ 65536 by omega)
  have HOF := Lib.hid (fun w => ofRef_any (n : Nat) w)
  rw [hcls, hsz] at HOF
  have HNUM := Lib.hid (fun e w => num_any e w)
  have HNW := Lib.hid (fun w => arNew_at 4 0 w)
  obtain ⟨j, hj⟩ : ∃ j, j = 64 + off := ⟨_, rfl⟩
  have hjw : IntKind.i64.wrap (64 + (off : Int)) = (j : Int) := by rw [IntWalk.i64_in _ (by omega)]; omega
  have H1 := Lib.hid h1
  have H2 := Lib.hid h2
  have H3 := Lib.hid h3
  have HU := Lib.hid hu
  have HJ := Lib.hid hj
  have HG := Lib.hid (And.intro g1 (And.intro g2 (And.intro g3 (And.intro g32 g00))))
  obtain ⟨s, hs⟩ : ∃ s, s = szI n := ⟨_, rfl⟩
  obtain ⟨c, hc⟩ : ∃ c, c = clsI n := ⟨_, rfl⟩
  rw [← hs, ← hc] at HOF
  rw [← hs] at d4
  clear h1 h2 h3 hu hj g1 g2 g3 g32 g00 hcls hsz hs hc
  go_enter Try.func8, Try.ntmps8
  go_wp2_with fail
  refine (alive_any _).mono ?_
  rintro e wa ⟨rfl, hba⟩
  have HBA := Lib.hid hba
  clear hba
  go_wp2_with fail
  refine (HOF.out _).mono ?_
  rintro e w0 ⟨rfl, rfl⟩
  go_wp2_with fail
  refine (HNW.out _).mono ?_
  rintro e wb ⟨pa, rfl, hO, ok, hbb⟩
  have HA0 := Lib.hid (show AtA wa pa 0 (newA 4 0) wb from ⟨hO, hbb⟩)
  have HAL := Lib.hid (alloc_in n H1.out (Nat.le_trans H2.out (by decide)) wb hO ok (by decide))
  clear hO ok hbb
  go_wp2_with fail
  refine HAL.out.mono ?_
  rintro e w1 ⟨r, A, rfl, hr, b1, ok, b3⟩
  obtain ⟨rfl, eN, eb, eL, f, el, _⟩ := hr.firstSmall H1.out H2.out (by decide) (by decide)
  have eN : A.N = 4 := eN
  have eb : A.bud = 0 := eb
  obtain ⟨g1, g2, g3, g32, g00⟩ := HG.out
  obtain ⟨K, hK⟩ : ∃ K, K = 0 + 2 * (33 + szI n / 64) := ⟨_, rfl⟩
  have hK2 : K ≤ 1000 := by omega
  rw [← hK] at b1
  have HA1 := Lib.hid (show AtA wa pa K A w1 from HA0.out.bel b1 b3)
  have hlx : liveB A 64 = some ⟨szI n, n, 1⟩ := by rw [el, updO_eq]
  obtain ⟨hBx, hSx⟩ := liveB_some.1 hlx
  have HK2 := Lib.hid hK2
  have hj := HJ.out
  have h3 := H3.out
  have hjN : j < 64 * A.N := by rw [eN]; omega
  clear hr b1 b3 hK hK2
  dsimp only [alV]
  cases fr with
  | true =>
    obtain ⟨ff, lf, nf, bf, lLf, wf⟩ := f.free_ hBx hSx
    have HFR := Lib.hid (a_free HA1.out f.ok 64 _ hBx hSx (f.use 64 _ hBx hSx))
    have hBf : (freeA A 64 ⟨szI n, n, 1⟩).B 64 = some ⟨szI n, n, 3⟩ := by
      rw [freeA_now hBx g32 g00 eb eL]
      show updO (updO A.B 64 (some ⟨szI n, n, 2⟩)) 64 (some ⟨szI n, n, 3⟩) 64 = _
      exact updO_eq _ _ _
    have hLf : (freeA A 64 ⟨szI n, n, 1⟩).L = [] := by rw [freeA_now hBx g32 g00 eb eL]
    have hNf : (freeA A 64 ⟨szI n, n, 1⟩).N = 4 := nf.trans eN
    have hlf : ∀ y, liveB (freeA A 64 ⟨szI n, n, 1⟩) y = none := fun y => by
      rw [lf, el]
      unfold updO
      split <;> rfl
    obtain ⟨A2, hA2⟩ : ∃ A2, A2 = freeA A 64 ⟨szI n, n, 1⟩ := ⟨_, rfl⟩
    rw [← hA2] at HFR ff hBf hLf hNf hlf
    have hjN2 : j < 64 * A2.N := by rw [hNf]; omega
    obtain ⟨z, hz⟩ : ∃ z, z = A2.wd j := ⟨_, rfl⟩
    have HRD : Hid (∀ wr, AtA wa pa K A2 wr → Calls Try.prog 17 #[.pointer (some ⟨pa, 0, none⟩), .int .i64 (j : Nat)] wr (fun e w' => e = .returned (.tuple #[.int .u64 z, .int .i64 0]) ∧ wr = w')) := Lib.hid (show ∀ wr, AtA wa pa K A2 wr → Calls Try.prog 17 #[.pointer (some ⟨pa, 0, none⟩), .int .i64 (j : Nat)] wr (fun e w' => e = .returned (.tuple #[.int .u64 z, .int .i64 0]) ∧ wr = w') from fun wr h => by
      rw [hz]
      exact read_in j wr h.1 ff.ok hjN2)
    have HWR := Lib.hid (fun wr (h : AtA wa pa K A2 wr) => a_write h ff.ok j u HU.out hjN2)
    by_cases hv : u = z
    · have hq : (u == z) = true := by simpa using hv
      have HCK : Hid (∀ wr, AtA wa pa K (pokeA A2 j u) wr → Calls Try.prog 19 #[.pointer (some ⟨pa, 0, none⟩)] wr fun e w' => ∃ v, e = .returned v ∧ ARow wa pa K A2 v [] w') := Lib.hid (show ∀ wr, AtA wa pa K (pokeA A2 j u) wr → Calls Try.prog 19 #[.pointer (some ⟨pa, 0, none⟩)] wr fun e w' => ∃ v, e = .returned v ∧ ARow wa pa K A2 v [] w' from fun wr h => by
        rw [hv, hz, poke_same] at h
        have := a_check h ff.ok (Nat.le_trans HK2.out (by decide))
        rw [ff.check] at this
        exact this)
      clear f el eN eb eL ok hlx hBx hSx ff lf nf bf lLf wf hBf hLf hNf hlf hA2 hjN hjN2 hz hj h3 g1 g2 g3 g32 g00 hv
      go_wp2_with (first | (go_at_call 14; refine (HNUM.out _ _).mono ?_; rintro e w5 ⟨rfl, rfl⟩) | fail)
      refine HFR.out.mono ?_
      rintro e w2 ⟨rfl, hs2⟩
      have HS2 := Lib.hid hs2
      clear hs2
      go_wp2_with (first | (go_at_call 14; refine (HNUM.out _ _).mono ?_; rintro e w5 ⟨rfl, rfl⟩) | fail)
      refine (HRD.out _ HS2.out).mono ?_
      rintro e w3 ⟨rfl, rfl⟩
      go_wp2_with fail
      refine (HWR.out _ HS2.out).mono ?_
      rintro e w3 ⟨rfl, hs3⟩
      have HS3 := Lib.hid hs3
      clear hs3
      go_wp2_with fail
      refine (HCK.out _ HS3.out).mono ?_
      rintro e w4 ⟨v4, rfl, hr4⟩
      have HF : Hid (Below w.heap.size w w4) := Lib.hid (show Below w.heap.size w w4 from HBA.out.trans (hr4.at_.2.mono HBA.out.size))
      obtain ⟨a4, c4, rfl⟩ := hr4.nil
      clear hr4
      go_wp2
      go_ret
      exact ⟨rfl, HF.out⟩
    · have hq : (u == z) = false := by simpa using hv
      have hvj : u ≠ A2.wd (64 + off) := by rw [← hj, ← hz]; exact hv
      have hck : checkL (pokeA A2 (64 + off) u) = [64] := ff.checkPoke hBf (Nat.le_add_right 64 off) (by show 64 + off < 64 + szI n; omega) (.inr ⟨by show (3 : Nat) ≠ 1; decide, by show (3 : Nat) ≠ 4; decide, by
        rintro (h | h)
        · cases h
        · have h9 : (if 64 + off = 64 + off then u else A2.wd (64 + off)) = ps ((64 + off : Nat) : Int) := h off h3
          rw [if_pos rfl] at h9
          exact hvj (h9.trans (ff.poi 64 _ hBf (.inr rfl) off h3).symm)⟩)
      have HCK : Hid (∀ wr, AtA wa pa K (pokeA A2 j u) wr → Calls Try.prog 19 #[.pointer (some ⟨pa, 0, none⟩)] wr fun e w' => ∃ v, e = .returned v ∧ ARow wa pa K (pokeA A2 j u) v [64] w') := Lib.hid (show ∀ wr, AtA wa pa K (pokeA A2 j u) wr → Calls Try.prog 19 #[.pointer (some ⟨pa, 0, none⟩)] wr fun e w' => ∃ v, e = .returned v ∧ ARow wa pa K (pokeA A2 j u) v [64] w' from fun wr h => by
        rw [hj] at h ⊢
        have := a_check h (ff.ok.poke _ _) (Nat.le_trans HK2.out (by decide))
        rw [hck] at this
        exact this)
      have HAL2 : Hid (∀ wr v, ARow wa pa K (pokeA A2 j u) v [64] wr → Calls Try.prog 13 #[.pointer (some ⟨pa, 0, none⟩), .int .i64 (n : Nat)] wr fun e w' => ∃ (y : Nat) (A' : Ar), e = .returned (alV (some y)) ∧ y ≠ 64 ∧ ArOk A' ∧ A'.bad = 1 ∧ checkL A' = [] ∧ ARow wa pa (K + 2 * (33 + szI n / 64)) A' v [64] w') := Lib.hid (show ∀ wr v, ARow wa pa K (pokeA A2 j u) v [64] wr → Calls Try.prog 13 #[.pointer (some ⟨pa, 0, none⟩), .int .i64 (n : Nat)] wr fun e w' => ∃ (y : Nat) (A' : Ar), e = .returned (alV (some y)) ∧ y ≠ 64 ∧ ArOk A' ∧ A'.bad = 1 ∧ checkL A' = [] ∧ ARow wa pa (K + 2 * (33 + szI n / 64)) A' v [64] w' from fun wr v h => by
        rw [hj] at h
        refine (a_alloc h (ff.ok.poke _ _) H1.out (Nat.le_trans H2.out (by decide)) (Nat.le_trans HK2.out (by decide))).mono ?_
        rintro e w9 ⟨r, A', rfl, hr, ok', hrow⟩
        obtain ⟨y, rfl, q1, q2, q3, q4⟩ := smash_alloc hr ok' ff g1 rfl g2 hNf hLf hBf hlf h3 hvj
        exact ⟨y, A', rfl, q1, ok', q3, q4, hrow⟩)
      have hKK : K + 2 * (33 + szI n / 64) ≤ 1048576 := by have := HK2.out; omega
      have HKK := Lib.hid hKK
      clear f el eN eb eL ok hlx hBx hSx ff lf nf bf lLf wf hBf hLf hNf hlf hA2 hjN hjN2 hz hj h3 g1 g2 g3 g32 g00 hv hvj hck hKK
      go_wp2_with (first | (go_at_call 14; refine (HNUM.out _ _).mono ?_; rintro e w5 ⟨rfl, rfl⟩) | fail)
      refine HFR.out.mono ?_
      rintro e w2 ⟨rfl, hs2⟩
      have HS2 := Lib.hid hs2
      clear hs2
      go_wp2_with (first | (go_at_call 14; refine (HNUM.out _ _).mono ?_; rintro e w5 ⟨rfl, rfl⟩) | fail)
      refine (HRD.out _ HS2.out).mono ?_
      rintro e w3 ⟨rfl, rfl⟩
      go_wp2_with fail
      refine (HWR.out _ HS2.out).mono ?_
      rintro e w3 ⟨rfl, hs3⟩
      have HS3 := Lib.hid hs3
      clear hs3
      go_wp2_with fail
      refine (HCK.out _ HS3.out).mono ?_
      rintro e w4 ⟨v4, rfl, hr4⟩
      have HA4 := Lib.hid (HAL2.out _ _ hr4)
      obtain ⟨g4, o4, c4, rfl⟩ := hr4.one
      clear hr4
      go_wp2_with fail
      refine HA4.out.mono ?_
      rintro e w5 ⟨y, A', rfl, hy, ok', hbad, hck', hr5⟩
      have hcell := hr5.cell
      have HB5 := Lib.hid (bad_any w5 hr5.at_.1)
      rw [hbad] at HB5
      have HC5 := Lib.hid (a_check hr5.at_ ok' HKK.out)
      rw [hck'] at HC5
      have hy1 : ((y : Int) == 64) = false := by rw [beq_eq_false_iff_ne]; omega
      have hy2 : ((y : Int) != 64) = true := by rw [bne, hy1]; rfl
      clear ok' hbad hck' hr5 hy
      dsimp only [alV]
      go_wp2_with (first | (go_at_call 14; refine (HNUM.out _ _).mono ?_; rintro e w5 ⟨rfl, rfl⟩) | fail)
      refine HB5.out.mono ?_
      rintro e w6 ⟨rfl, rfl⟩
      go_wp2_with fail
      refine HC5.out.mono ?_
      rintro e w7 ⟨v7, rfl, hr7⟩
      have HF : Hid (Below w.heap.size w w7) := Lib.hid (show Below w.heap.size w w7 from HBA.out.trans (hr7.at_.2.mono HBA.out.size))
      obtain ⟨a7, c7, rfl⟩ := hr7.nil
      clear hr7
      go_wp2
      go_ret
      exact ⟨rfl, HF.out⟩
  | false =>
    obtain ⟨z, hz⟩ : ∃ z, z = A.wd j := ⟨_, rfl⟩
    have HRD : Hid (∀ wr, AtA wa pa K A wr → Calls Try.prog 17 #[.pointer (some ⟨pa, 0, none⟩), .int .i64 (j : Nat)] wr (fun e w' => e = .returned (.tuple #[.int .u64 z, .int .i64 0]) ∧ wr = w')) := Lib.hid (show ∀ wr, AtA wa pa K A wr → Calls Try.prog 17 #[.pointer (some ⟨pa, 0, none⟩), .int .i64 (j : Nat)] wr (fun e w' => e = .returned (.tuple #[.int .u64 z, .int .i64 0]) ∧ wr = w') from fun wr h => by
      rw [hz]
      exact read_in j wr h.1 f.ok hjN)
    have HWR := Lib.hid (fun wr (h : AtA wa pa K A wr) => a_write h f.ok j u HU.out hjN)
    by_cases hv : off < n ∨ u = z
    · have hf : Fine (· = szI n) (pokeA A j u) := by
        rcases hv with hv | hv
        · have := (f.write (i := off) hlx hv u).1
          rw [← hj] at this
          exact this
        · rw [hv, hz, poke_same]
          exact f
      have hBp : (pokeA A j u).B 64 = some ⟨szI n, n, 1⟩ := hBx
      have HCK : Hid (∀ wr, AtA wa pa K (pokeA A j u) wr → Calls Try.prog 19 #[.pointer (some ⟨pa, 0, none⟩)] wr fun e w' => ∃ v, e = .returned v ∧ ARow wa pa K (pokeA A j u) v [] w') := Lib.hid (show ∀ wr, AtA wa pa K (pokeA A j u) wr → Calls Try.prog 19 #[.pointer (some ⟨pa, 0, none⟩)] wr fun e w' => ∃ v, e = .returned v ∧ ARow wa pa K (pokeA A j u) v [] w' from fun wr h => by
        have := a_check h hf.ok (Nat.le_trans HK2.out (by decide))
        rw [hf.check] at this
        exact this)
      have HFR : Hid (∀ wr, AtA wa pa K (pokeA A j u) wr → Calls Try.prog 15 #[.pointer (some ⟨pa, 0, none⟩), .int .i64 64] wr fun e w' => e = .returned (.int .i64 0) ∧ AtA wa pa K (freeA (pokeA A j u) 64 ⟨szI n, n, 1⟩) w') := Lib.hid (show ∀ wr, AtA wa pa K (pokeA A j u) wr → Calls Try.prog 15 #[.pointer (some ⟨pa, 0, none⟩), .int .i64 64] wr fun e w' => e = .returned (.int .i64 0) ∧ AtA wa pa K (freeA (pokeA A j u) 64 ⟨szI n, n, 1⟩) w' from fun wr h => a_free h hf.ok 64 _ hBp rfl (hf.use 64 _ hBp rfl))
      have hq : ((off : Int) < (n : Int)) ∨ (¬ ((off : Int) < (n : Int)) ∧ (u == z) = true) := by
        by_cases h9 : off < n
        · exact .inl (by omega)
        · exact .inr ⟨by omega, by simpa using hv.resolve_left h9⟩
      clear f el eN eb eL ok hlx hBx hSx hjN hz hj h3 g1 g2 g3 g32 g00 hf hBp hv
      go_wp2_with (first | (go_at_call 14; refine (HNUM.out _ _).mono ?_; rintro e w5 ⟨rfl, rfl⟩) | fail)
      refine (HRD.out _ HA1.out).mono ?_
      rintro e w3 ⟨rfl, rfl⟩
      go_wp2_with fail
      refine (HWR.out _ HA1.out).mono ?_
      rintro e w3 ⟨rfl, hs3⟩
      have HS3 := Lib.hid hs3
      clear hs3
      go_wp2_with fail
      refine (HCK.out _ HS3.out).mono ?_
      rintro e w4 ⟨v4, rfl, hr4⟩
      have HFR4 := Lib.hid (HFR.out _ hr4.at_)
      obtain ⟨a4, c4, rfl⟩ := hr4.nil
      clear hr4
      go_wp2_with fail
      refine HFR4.out.mono ?_
      rintro e w5 ⟨rfl, hs5⟩
      have HF : Hid (Below w.heap.size w w5) := Lib.hid (show Below w.heap.size w w5 from HBA.out.trans (hs5.2.mono HBA.out.size))
      clear hs5
      rcases hq with hq | ⟨hq, hq2⟩
      all_goals
        go_wp2_with (first | (go_at_call 14; refine (HNUM.out _ _).mono ?_; rintro e w5 ⟨rfl, rfl⟩) | fail)
        go_ret
        exact ⟨rfl, HF.out⟩
    · have hoff : n ≤ off := by omega
      have hvz : u ≠ z := fun e => hv (.inr e)
      have hq1 : ¬ ((off : Int) < (n : Int)) := by omega
      have hq2 : (u == z) = false := by simpa using hvz
      have hnk : ¬ keptA (pokeA A j u) 64 ⟨szI n, n, 1⟩ := fun h => by
        have h9 : (if 64 + off = j then u else A.wd (64 + off)) = cn ((64 + off : Nat) : Int) := h off hoff h3
        rw [if_pos hj.symm] at h9
        have h8 := f.use 64 _ hBx rfl off hoff h3
        rw [← hj] at h8 h9
        exact hvz (h9.trans (h8.symm.trans hz.symm))
      have hck : checkL (pokeA A j u) = [64] := f.checkPoke hBx (by omega) (by show j < 64 + szI n; omega) (.inl ⟨rfl, hnk⟩)
      have hBp : (pokeA A j u).B 64 = some ⟨szI n, n, 1⟩ := hBx
      have hlp : natI (liveL (pokeA A j u)) = [64] := upd_live (f.ok.poke j u) el
      have HCK : Hid (∀ wr, AtA wa pa K (pokeA A j u) wr → Calls Try.prog 19 #[.pointer (some ⟨pa, 0, none⟩)] wr fun e w' => ∃ v, e = .returned v ∧ ARow wa pa K (pokeA A j u) v [64] w') := Lib.hid (show ∀ wr, AtA wa pa K (pokeA A j u) wr → Calls Try.prog 19 #[.pointer (some ⟨pa, 0, none⟩)] wr fun e w' => ∃ v, e = .returned v ∧ ARow wa pa K (pokeA A j u) v [64] w' from fun wr h => by
        have := a_check h (f.ok.poke j u) (Nat.le_trans HK2.out (by decide))
        rw [hck] at this
        exact this)
      have HLV : Hid (∀ wr, AtA wa pa K (pokeA A j u) wr → Calls Try.prog 16 #[.pointer (some ⟨pa, 0, none⟩)] wr fun e w' => ∃ v, e = .returned v ∧ ARow wa pa K (pokeA A j u) v [64] w') := Lib.hid (show ∀ wr, AtA wa pa K (pokeA A j u) wr → Calls Try.prog 16 #[.pointer (some ⟨pa, 0, none⟩)] wr fun e w' => ∃ v, e = .returned v ∧ ARow wa pa K (pokeA A j u) v [64] w' from fun wr h => by
        have := a_live h (f.ok.poke j u) (Nat.le_trans HK2.out (by decide))
        rw [hlp] at this
        exact this)
      have HFR : Hid (∀ wr, AtA wa pa K (pokeA A j u) wr → Calls Try.prog 15 #[.pointer (some ⟨pa, 0, none⟩), .int .i64 64] wr fun e w' => e = .returned (.int .i64 4) ∧ ∃ k, w' = wr.drewN k) := Lib.hid (show ∀ wr, AtA wa pa K (pokeA A j u) wr → Calls Try.prog 15 #[.pointer (some ⟨pa, 0, none⟩), .int .i64 64] wr fun e w' => e = .returned (.int .i64 4) ∧ ∃ k, w' = wr.drewN k from fun wr h => free_smash 64 _ wr h.1 (f.ok.poke j u) hBp rfl hnk)
      clear f el eN eb eL ok hlx hBx hSx hjN hz hj h3 g1 g2 g3 g32 g00 hBp hv hvz hnk hck hlp hoff
      go_wp2_with (first | (go_at_call 14; refine (HNUM.out _ _).mono ?_; rintro e w5 ⟨rfl, rfl⟩) | fail)
      refine (HRD.out _ HA1.out).mono ?_
      rintro e w3 ⟨rfl, rfl⟩
      go_wp2_with fail
      refine (HWR.out _ HA1.out).mono ?_
      rintro e w3 ⟨rfl, hs3⟩
      have HS3 := Lib.hid hs3
      clear hs3
      go_wp2_with fail
      refine (HCK.out _ HS3.out).mono ?_
      rintro e w4 ⟨v4, rfl, hr4⟩
      have HFR4 := Lib.hid (HFR.out _ hr4.at_)
      obtain ⟨g4, o4, c4, rfl⟩ := hr4.one
      have HR4 := Lib.hid hr4
      clear hr4
      go_wp2_with fail
      refine HFR4.out.mono ?_
      rintro e w5 ⟨rfl, k5, rfl⟩
      have hcell := (HR4.out.drewN k5).cell
      have HLV5 := Lib.hid (HLV.out _ (HR4.out.drewN k5).at_)
      go_wp2_with (first | (go_at_call 14; refine (HNUM.out _ _).mono ?_; rintro e w5 ⟨rfl, rfl⟩) | fail)
      refine HLV5.out.mono ?_
      rintro e w7 ⟨v7, rfl, hr7⟩
      have HF : Hid (Below w.heap.size w w7) := Lib.hid (show Below w.heap.size w w7 from HBA.out.trans (hr7.at_.2.mono HBA.out.size))
      obtain ⟨g7, o7, c7, rfl⟩ := hr7.one
      clear hr7
      go_wp2
      go_ret
      exact ⟨rfl, HF.out⟩
theorem arenaSmashed.walk (a0 : Int) (a1 : Int) (a2 : Int) (a3 : Bool) (w : World) (w0 : (Lit.int .i64 a0).wf = true) (w1 : (Lit.int .i64 a1).wf = true) (w2 : (Lit.int .u64 a2).wf = true) :
    Calls Try.prog 8 #[.int .i64 a0, .int .i64 a1, .int .u64 a2, .bool a3] w fun e w' => e = .returned (.bool true) ∧ Below w.heap.size w w' := by
  by_cases h : 1 ≤ a0 ∧ a0 ≤ 31 ∧ 0 ≤ a1 ∧ a1 < szOf a0
  · obtain ⟨n, rfl⟩ : ∃ n : Nat, a0 = n := ⟨a0.toNat, by omega⟩
    obtain ⟨off, rfl⟩ : ∃ n : Nat, a1 = n := ⟨a1.toNat, by omega⟩
    obtain ⟨_, _, _, _, hsz, _, _⟩ := sizeOk_of (n := n) (by omega) (by omega)
    exact arenaSmashed.into n off a2 a3 w (by omega) (by omega) (by rw [hsz] at h; omega) w2
  · exact arenaSmashed.out a0 a1 a2 a3 w h
end Go.Proofs.Ytfiddodlpppdhaa

/- The walk of the law ArenaFills: it answers true for every input. -/
import Derived.Test.YtfiddodlpppdhaaAsFills
import Derived.Test.YtfiddodlpppdhaaOpen
namespace Go.Proofs.Ytfiddodlpppdhaa
open Go.RowKit Go.Maps
set_option linter.unusedVariables false
set_option maxRecDepth 100000 in
set_option maxHeartbeats 1000000 in
theorem arenaFills.out (a0 a1 a2 : Int) (w : World) (hd : ¬ (1 ≤ a0 ∧ a0 ≤ 20 ∧ 1 ≤ a1 ∧ a1 ≤ 31)) :
    Calls Try.prog 6 #[.int .i64 a0, .int .i64 a1, .int .i64 a2] w fun e w' => e = .returned (.bool true) ∧ Below w.heap.size w w' := by
  go_enter Try.func6, Try.ntmps6
  go_wp2_with (first | (go_at_call 10; refine (alive_any _).mono ?_; rintro e w' ⟨rfl, hb⟩))
  all_goals
    go_ret
    exact ⟨rfl, by assumption⟩
set_option maxRecDepth 100000 in
set_option maxHeartbeats 4000000 in
theorem arenaFills.into (N n : Nat) (bud : Int) (w : World) (hN1 : 1 ≤ N) (hN2 : N ≤ 20) (h1 : 1 ≤ n) (h2 : n ≤ 31) :
    Calls Try.prog 6 #[.int .i64 (N : Nat), .int .i64 (n : Nat), .int .i64 bud] w fun e w' => e = .returned (.bool true) ∧ Below w.heap.size w w' := by
  have d1 : decide ((n : Int) < 1) = false := by rw [decide_eq_false_iff_not]; omega
  have d2 : decide (31 < (n : Int)) = false := by rw [decide_eq_false_iff_not]; omega
  have d3 : decide ((N : Int) < 1) = false := by rw [decide_eq_false_iff_not]; omega
  have d4 : decide (20 < (N : Int)) = false := by rw [decide_eq_false_iff_not]; omega
  obtain ⟨g1, g2, g3⟩ := small_of h1 h2
  obtain ⟨_, _, _, hcls, hsz, _, _⟩ := sizeOk_of h1 (show n ≤ 65536 by omega)
  have HOF := Lib.hid (fun w => ofRef_any (n : Nat) w)
  rw [hcls, hsz] at HOF
  have HAL := Lib.hid (fun w0 pa K U w (h : FiAt w0 pa K N (szI n) U w) hK hU => fi_alloc h1 h2 w h hK hU)
  have HFU := Lib.hid (fun w0 pa K U w (h : FiAt w0 pa K N (szI n) U w) hK hU => fi_full h1 h2 w h hK hU)
  obtain ⟨s, hs⟩ : ∃ s, s = szI n := ⟨_, rfl⟩
  obtain ⟨c, hc⟩ : ∃ c, c = clsI n := ⟨_, rfl⟩
  rw [← hs] at g1 HAL HFU HOF
  rw [← hc] at HOF
  obtain ⟨M, hM⟩ : ∃ M, M = 64 / s := ⟨_, rfl⟩
  obtain ⟨T, hT⟩ : ∃ T, T = (N - 1) * M := ⟨_, rfl⟩
  rw [← hM, ← hT] at HAL HFU
  have s1 := (small_at g1).1
  have s2 := (small_at g1).2.1
  have hM64 : 1 ≤ M ∧ M ≤ 64 := by
    unfold small5 at g1
    rcases g1 with g | g | g | g | g <;> rw [g] at hM <;> omega
  have hTb : T ≤ 19 * 64 := by rw [hT]; exact Nat.mul_le_mul (by omega) hM64.2
  have hdiv2 : (64 : Int) / (s : Int) = (M : Int) := by
    unfold small5 at g1
    rcases g1 with g | g | g | g | g <;> rw [hM, g] <;> rfl
  have hdiv : Int.tdiv 64 (s : Int) = (M : Int) := by rw [Int.tdiv_eq_ediv_of_nonneg (by omega)]; exact hdiv2
  have hMw : IntKind.i64.wrap (M : Int) = (M : Int) := IntWalk.i64_in _ (by omega)
  have hNw : IntKind.i64.wrap ((N : Int) - 1) = ((N - 1 : Nat) : Int) := by rw [IntWalk.i64_in _ (by omega)]; omega
  have hTw : IntKind.i64.wrap (((N - 1 : Nat) : Int) * (M : Int)) = (T : Int) := by
    have : ((N - 1 : Nat) : Int) * (M : Int) = (((N - 1) * M : Nat) : Int) := by push_cast; rfl
    rw [this, ← hT, IntWalk.i64_in _ (by omega)]
  have hs0 : ¬ (s : Int) = 0 := by omega
  have hs0' : ((s : Int) == 0) = false := by rw [beq_eq_false_iff_ne]; omega
  have hspos : (0 : Int) ≤ (s : Int) := by omega
  have HG := Lib.hid g1
  have HNUM := Lib.hid (fun e w => num_any e w)
  have HNW := Lib.hid (fun w => arNew_at (N : Int) bud w)
  rw [show pagesN (N : Int) = N by unfold pagesN; omega] at HNW
  clear g1 g2 g3 hcls hsz hs hc hM hT
  go_enter Try.func6, Try.ntmps6
  go_wp2_with fail
  refine (alive_any _).mono ?_
  rintro e wa ⟨rfl, hba⟩
  have HBA := Lib.hid hba
  clear hba
  go_wp2_with fail
  refine (HOF.out _).mono ?_
  rintro e w0 ⟨rfl, rfl⟩
  go_wp2_with fail
  refine (HNW.out _).mono ?_
  rintro e wb hb
  obtain ⟨pa, rfl, hO, hbb⟩ := OneS.new (s := s) hb ⟨hN1, Nat.le_trans hN2 (by decide)⟩
  have HL0 : Hid (FiAt wa pa (66 * (T + 1) * 0) N s [] wb) := Lib.hid (show FiAt wa pa (66 * (T + 1) * 0) N s [] wb from ⟨_, fun g hg => hg, hO, hbb⟩)
  clear hb hO hbb
  go_wp2_with fail
  go_loopw [12] (fun v wr => ∃ i : Nat, v = .int .i64 (i : Nat) ∧ i ≤ 2 ∧ Hid (FiAt wa pa (66 * (T + 1) * i) N s [] wr)) (fun v _ => 2 - (intOf v).toNat)
  case atStart => exact ⟨0, rfl, Nat.zero_le _, HL0⟩
  case round =>
    obtain ⟨r, rfl, hr, hp⟩ := hrel
    obtain ⟨wo, rfl⟩ : ∃ wo : World, wo = wr := ⟨_, rfl⟩
    by_cases hlt : r < 2
    · have hlt2 : (r : Int) < 2 := by omega
      have hrw : IntKind.i64.wrap ((r : Int) + 1) = ((r + 1 : Nat) : Int) := by rw [IntWalk.i64_in _ (by omega)]; omega
      obtain ⟨K0, hK0⟩ : ∃ K0, K0 = 66 * (T + 1) * r := ⟨_, rfl⟩
      have hK0b : K0 ≤ 100000 := by rw [hK0]; exact Nat.le_trans (Nat.mul_le_mul (Nat.mul_le_mul (Nat.le_refl 66) (show T + 1 ≤ 19 * 64 + 1 by omega)) (show r ≤ 1 by omega)) (by decide)
      have hK1 : 66 * (T + 1) * (r + 1) = K0 + 66 * (T + 1) := by rw [hK0, Nat.mul_succ]
      have HP0 : Hid (∃ U : List Nat, U.length = 0 ∧ FiAt wa pa (K0 + 66 * 0) N s U wo) := Lib.hid (show ∃ U : List Nat, U.length = 0 ∧ FiAt wa pa (K0 + 66 * 0) N s U wo from ⟨[], rfl, by rw [hK0]; exact hp.out⟩)
      have HK1 := Lib.hid hK1
      clear hp hK0 hK1
      go_wp2_with fail
      go_loopw [13] (fun v wr => ∃ i : Nat, v = .int .i64 (i : Nat) ∧ i ≤ T ∧ Hid (∃ U : List Nat, U.length = i ∧ FiAt wa pa (K0 + 66 * i) N s U wr)) (fun v _ => T - (intOf v).toNat)
      case atStart => exact ⟨0, rfl, Nat.zero_le _, HP0⟩
      case round =>
        obtain ⟨i, rfl, hi, hp⟩ := hrel
        obtain ⟨wi, rfl⟩ : ∃ wi : World, wi = wr := ⟨_, rfl⟩
        obtain ⟨U, hUl, hU⟩ := hp.out
        by_cases hlt3 : i < T
        · have hlt4 : (i : Int) < (T : Int) := by omega
          have hi1 : IntKind.i64.wrap ((i : Int) + 1) = ((i + 1 : Nat) : Int) := by rw [IntWalk.i64_in _ (by omega)]; omega
          have HA := Lib.hid (HAL.out wa pa _ U wi hU (by omega) (by omega))
          clear hU hp
          go_wp2_with fail
          refine HA.out.mono ?_
          rintro e w2 ⟨x, U', rfl, hUl', hU'⟩
          have HF : Hid (∃ U : List Nat, U.length = i + 1 ∧ FiAt wa pa (K0 + 66 * (i + 1)) N s U w2) := Lib.hid (show ∃ U : List Nat, U.length = i + 1 ∧ FiAt wa pa (K0 + 66 * (i + 1)) N s U w2 from ⟨U', by omega, by rw [show K0 + 66 * (i + 1) = K0 + 66 * i + 66 by omega]; exact hU'⟩)
          clear hUl' hU' hUl
          dsimp only [alV]
          go_wp2_with (first | (go_at_call 14; refine (HNUM.out _ _).mono ?_; rintro e w5 ⟨rfl, rfl⟩) | fail)
          go_roundw
          case rel => first | exact ⟨i + 1, by go_num, by omega, HF⟩ | ((repeat apply Exists.intro); exact ⟨⟨i + 1, by go_num, by omega, HF⟩, rfl⟩)
          case measure => simp [intOf]; omega
        · obtain rfl : i = T := by omega
          have hlt4 : ¬ (i : Int) < (i : Int) := by omega
          have HA := Lib.hid (HFU.out wa pa _ U wi hU (by omega) (by omega))
          have HUL := Lib.hid hUl
          clear hU hp hUl
          go_wp2_with fail
          refine HA.out.mono ?_
          rintro e w2 ⟨rfl, hU2⟩
          have HLV := Lib.hid (fi_live w2 hU2 (by omega))
          clear hU2
          dsimp only [alV]
          go_wp2_with fail
          refine HLV.out.mono ?_
          rintro e w3 ⟨v, l, rfl, hl1, hl2, hl3, hl4⟩
          have hll : l.length = i := hl1.trans HUL.out
          obtain ⟨a, cap, hv⟩ : ∃ a cap, v = .slice a l.length cap := by
            obtain ⟨B, _, _, _, hr, _⟩ := hl4
            obtain ⟨a, cap, h, _⟩ := hr.read
            exact ⟨a, cap, h⟩
          obtain ⟨L, hL⟩ : ∃ L, L = l.length := ⟨_, rfl⟩
          rw [← hL] at hv hll
          subst hv
          have HD0 : Hid (FiD wa pa (K0 + 66 * i + 66) N s (.slice a L cap) l 0 w3) := Lib.hid (show FiD wa pa (K0 + 66 * i + 66) N s (.slice a L cap) l 0 w3 from ⟨U, hl3, hl4⟩)
          have HND := Lib.hid hl2
          have HLL := Lib.hid hll
          have hll1 : ((L : Int) != (i : Int)) = false := by rw [hll]; simp
          have hll2 : ((L : Int) == (i : Int)) = true := by rw [hll]; simp
          have hll3 : L ≤ 1216 := by omega
          have HLE := Lib.hid hL
          clear hl1 hl2 hl3 hl4 hll hL
          go_wp2_with (first | (go_at_call 14; refine (HNUM.out _ _).mono ?_; rintro e w5 ⟨rfl, rfl⟩) | fail)
          go_loopw [19] (fun v wr => ∃ k : Nat, v = .int .i64 (k : Nat) ∧ k ≤ L ∧ Hid (FiD wa pa (K0 + 66 * i + 66) N s (.slice a L cap) l k wr)) (fun v _ => L - (intOf v).toNat)
          case atStart => exact ⟨0, rfl, Nat.zero_le _, HD0⟩
          case round =>
            obtain ⟨k, rfl, hk, hp⟩ := hrel
            obtain ⟨wi, rfl⟩ : ∃ wi : World, wi = wr := ⟨_, rfl⟩
            by_cases hlt5 : k < L
            · have hlt6 : (k : Int) < (L : Int) := by omega
              have hk0 : (0 : Int) ≤ (k : Int) := by omega
              have hk1 : IntKind.i64.wrap ((k : Int) + 1) = ((k + 1 : Nat) : Int) := by rw [IntWalk.i64_in _ (by omega)]; omega
              have hkl : k < l.length := by rw [← HLE.out]; exact hlt5
              have HFR := Lib.hid (fi_drop HG.out wi HND.out hkl hp.out)
              have hrow : RowS wi 1 (.slice a L cap) L (intC (natI l)) := by
                obtain ⟨U9, _, B9, _, _, _, hr9, _⟩ := hp.out
                rw [← HLE.out] at hr9
                exact hr9
              obtain ⟨g, off, rfl, _, hcell⟩ := row_cell hrow (by rw [HLE.out, natI_len]) hlt5
              have hgx : hg (natI l) k = ((l[k] : Nat) : Int) := by
                have h9 : (natI l)[k]? = some ((l[k] : Nat) : Int) := by
                  unfold natI
                  rw [List.getElem?_map, List.getElem?_eq_getElem hkl]
                  rfl
                have h8 := hg_some (l := natI l) (by rw [natI_len]; exact hkl)
                rw [h9] at h8
                exact (Option.some.inj h8).symm
              rw [hgx] at hcell
              obtain ⟨x, hx⟩ : ∃ x, x = l[k] := ⟨_, rfl⟩
              rw [← hx] at hcell HFR
              clear hx hgx hrow hp hkl
              go_wp2_with fail
              refine HFR.out.mono ?_
              rintro e w6 ⟨rfl, hF6⟩
              have HF := Lib.hid hF6
              clear hF6
              go_wp2_with (first | (go_at_call 14; refine (HNUM.out _ _).mono ?_; rintro e w5 ⟨rfl, rfl⟩) | fail)
              go_roundw
              case rel => first | exact ⟨k + 1, by go_num, by omega, HF⟩ | ((repeat apply Exists.intro); exact ⟨⟨k + 1, by go_num, by omega, HF⟩, rfl⟩)
              case measure => simp [intOf]; omega
            · obtain rfl : k = L := by omega
              have hlt6 : ¬ (k : Int) < (k : Int) := by omega
              have HF : Hid (FiAt wa pa (66 * (i + 1) * (r + 1)) N s [] wi) := Lib.hid (show FiAt wa pa (66 * (i + 1) * (r + 1)) N s [] wi from by
                have h9 := hp.out
                rw [HLE.out] at h9
                rw [HK1.out, show K0 + 66 * (i + 1) = K0 + 66 * i + 66 by omega]
                exact h9.done)
              clear hp
              go_wp2_with fail
              go_roundw
              case rel => first | exact ⟨r + 1, by go_num, by omega, HF⟩ | ((repeat apply Exists.intro); exact ⟨⟨r + 1, by go_num, by omega, HF⟩, rfl⟩)
              case measure => simp [intOf]; omega
    · obtain rfl : r = 2 := by omega
      have hKb : 66 * (T + 1) * 2 ≤ 1048576 := Nat.le_trans (Nat.mul_le_mul (Nat.mul_le_mul (Nat.le_refl 66) (show T + 1 ≤ 19 * 64 + 1 by omega)) (Nat.le_refl 2)) (by decide)
      have HLV := Lib.hid (fi_live wo hp.out hKb)
      clear hp hKb
      go_wp2_with fail
      refine HLV.out.mono ?_
      rintro e w3 ⟨v, l, rfl, hl1, _, _, ⟨B, hB1, _, hB3, hr, _⟩⟩
      obtain rfl : l = [] := List.length_eq_zero_iff.1 hl1
      obtain ⟨a, cap, rfl, _⟩ := hr.read
      have HF : Hid (Below w.heap.size w w3) := Lib.hid (show Below w.heap.size w w3 from HBA.out.trans (hB3.mono HBA.out.size))
      clear hl1 hB1 hB3 hr
      go_wp2
      go_ret
      exact ⟨rfl, HF.out⟩
theorem arenaFills.walk (a0 : Int) (a1 : Int) (a2 : Int) (w : World) (w0 : (Lit.int .i64 a0).wf = true) (w1 : (Lit.int .i64 a1).wf = true) (w2 : (Lit.int .i64 a2).wf = true) :
    Calls Try.prog 6 #[.int .i64 a0, .int .i64 a1, .int .i64 a2] w fun e w' => e = .returned (.bool true) ∧ Below w.heap.size w w' := by
  by_cases h : 1 ≤ a0 ∧ a0 ≤ 20 ∧ 1 ≤ a1 ∧ a1 ≤ 31
  · obtain ⟨N, rfl⟩ : ∃ n : Nat, a0 = n := ⟨a0.toNat, by omega⟩
    obtain ⟨n, rfl⟩ : ∃ n : Nat, a1 = n := ⟨a1.toNat, by omega⟩
    exact arenaFills.into N n a2 w (by omega) (by omega) (by omega) (by omega)
  · exact arenaFills.out a0 a1 a2 w h
end Go.Proofs.Ytfiddodlpppdhaa

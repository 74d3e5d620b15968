/- The walk of the law ArenaFlushes: it answers true for every input. -/
import Derived.Test.YtfiddodlpppdhaaArOneS
import Derived.Test.YtfiddodlpppdhaaOpen
namespace Go.Proofs.Ytfiddodlpppdhaa
open Go.RowKit Go.Maps
set_option linter.unusedVariables false
set_option maxRecDepth 100000 in
set_option maxHeartbeats 1000000 in
theorem arenaFlushes.out (a0 : Int) (w : World) (hd : ¬ (1 ≤ a0 ∧ a0 ≤ 31)) :
    Calls Try.prog 5 #[.int .i64 a0] w fun e w' => e = .returned (.bool true) ∧ Below w.heap.size w w' := by
  go_enter Try.func5, Try.ntmps5
  go_wp2_with (first | (go_at_call 10; refine (alive_any _).mono ?_; rintro e w' ⟨rfl, hb⟩) | (go_at_call 11; refine (ofRef_any _ _).mono ?_; rintro e w' ⟨rfl, rfl⟩))
  all_goals
    go_ret
    exact ⟨rfl, by assumption⟩
/-- where the loop stands -/
def FlAt (B pa s : Nat) (w : World) (i : Nat) (wr : World) : Prop := ∃ U, OneS B pa (66 * i) 2 s U wr ∧ U.length = i ∧ Below B w wr
set_option maxRecDepth 100000 in
set_option maxHeartbeats 4000000 in
theorem arenaFlushes.into (n : Nat) (w : World) (h1 : 1 ≤ n) (h2 : n ≤ 31) :
    Calls Try.prog 5 #[.int .i64 (n : Nat)] w fun e w' => e = .returned (.bool true) ∧ Below w.heap.size w w' := by
  have d1 : decide ((n : Int) < 1) = false := by rw [decide_eq_false_iff_not]; omega
  have d2 : decide (31 < (n : Int)) = false := by rw [decide_eq_false_iff_not]; omega
  obtain ⟨g1, g2, g3⟩ := small_of h1 h2
  obtain ⟨_, _, _, hcls, hsz, _, _⟩ := sizeOk_of h1 (show n ≤ 65536 by omega)
  have HOF := Lib.hid (fun w => ofRef_any (n : Nat) w)
  rw [hcls, hsz] at HOF
  have HAL := Lib.hid (fun B pa K U w (h : OneS B pa K 2 (szI n) U w) hK => alloc_one (B := B) (pa := pa) (K := K) h1 h2 w h hK)
  obtain ⟨s, hs⟩ : ∃ s, s = szI n := ⟨_, rfl⟩
  obtain ⟨c, hc⟩ : ∃ c, c = clsI n := ⟨_, rfl⟩
  rw [← hs] at g1 HAL HOF
  rw [← hc] at HOF
  obtain ⟨M, hM⟩ : ∃ M, M = 64 / s := ⟨_, rfl⟩
  have s1 := (small_at g1).1
  have s2 := (small_at g1).2.1
  have hM64 : 1 ≤ M ∧ M ≤ 64 := by
    unfold small5 at g1
    rcases g1 with g | g | g | g | g <;> rw [g] at hM <;> omega
  have hdiv2 : (64 : Int) / (s : Int) = (M : Int) := by
    unfold small5 at g1
    rcases g1 with g | g | g | g | g <;> rw [hM, g] <;> rfl
  have hdiv : Int.tdiv 64 (s : Int) = (M : Int) := by rw [Int.tdiv_eq_ediv_of_nonneg (by omega)]; exact hdiv2
  have hMw : IntKind.i64.wrap (M : Int) = (M : Int) := IntWalk.i64_in _ (by omega)
  have hs0 : ¬ (s : Int) = 0 := by omega
  have hs0' : ((s : Int) == 0) = false := by rw [beq_eq_false_iff_ne]; omega
  have hspos : (0 : Int) ≤ (s : Int) := by omega
  have HG := Lib.hid g1
  have HMM := Lib.hid hM
  have HNUM := Lib.hid (fun e w => num_any e w)
  have HNW := Lib.hid (fun w => arNew_at 2 1048576 w)
  clear g1 g2 g3 hcls hsz hs hc hM
  go_enter Try.func5, Try.ntmps5
  go_wp2_with fail
  refine (alive_any _).mono ?_
  rintro e wa ⟨rfl, hba⟩
  have HBA := Lib.hid hba
  clear hba
  go_wp2_with fail
  refine (HOF.out _).mono ?_
  rintro e w0 ⟨rfl, rfl⟩
  go_wp2_with fail
  refine (HNW.out _).mono ?_
  rintro e wb hb
  obtain ⟨pa, rfl, hO, hbb⟩ := OneS.new (s := s) hb (by decide)
  have HBB := Lib.hid hbb
  have HL0 : Hid (FlAt wa.heap.size pa s wa 0 wb) := Lib.hid (show FlAt wa.heap.size pa s wa 0 wb from ⟨[], hO, rfl, hbb⟩)
  obtain ⟨B, hB⟩ : ∃ B, B = wa.heap.size := ⟨_, rfl⟩
  rw [← hB] at HL0
  have HWB := Lib.hid hB
  clear hb hO hbb hB
  go_wp2_with fail
  go_loopw [7] (fun v wr => ∃ i : Nat, v = .int .i64 (i : Nat) ∧ i ≤ M ∧ Hid (FlAt B pa s wa i wr)) (fun v _ => M - (intOf v).toNat)
  case atStart => exact ⟨0, rfl, Nat.zero_le _, HL0⟩
  case round =>
    obtain ⟨i, rfl, hi, hp⟩ := hrel
    obtain ⟨wo, rfl⟩ : ∃ wo : World, wo = wr := ⟨_, rfl⟩
    obtain ⟨U, hU, hUl, hbU⟩ := hp.out
    have HA := Lib.hid (HAL.out B pa _ U wo hU (by omega))
    have HU := Lib.hid (And.intro hU (And.intro hUl hbU))
    by_cases hlt : i < M
    · have hlt2 : (i : Int) < (M : Int) := by omega
      have hi1 : IntKind.i64.wrap ((i : Int) + 1) = ((i + 1 : Nat) : Int) := by rw [IntWalk.i64_in _ (by omega)]; omega
      clear hU hUl hbU hp
      go_wp2_with fail
      refine HA.out.mono ?_
      rintro e w2 ⟨hb2, ⟨rfl, hall, _⟩ | ⟨x, rfl, hxU, hxs, hO2⟩⟩
      · exact absurd (full_len HG.out hall) (by have := HU.out.2.1; have := HMM.out; omega)
      · have HF : Hid (FlAt B pa s wa (i + 1) w2) := Lib.hid (show FlAt B pa s wa (i + 1) w2 from ⟨U ++ [x], by rw [show 66 * (i + 1) = 66 * i + 66 by omega]; exact hO2, by rw [List.length_append, HU.out.2.1]; rfl, HU.out.2.2.trans hb2⟩)
        clear hb2 hxU hxs hO2
        dsimp only [alV]
        go_wp2_with (first | (go_at_call 14; refine (HNUM.out _ _).mono ?_; rintro e w5 ⟨rfl, rfl⟩) | fail)
        go_roundw
        case rel => first | exact ⟨i + 1, by go_num, by omega, HF⟩ | ((repeat apply Exists.intro); exact ⟨⟨i + 1, by go_num, by omega, HF⟩, rfl⟩)
        case measure => simp [intOf]; omega
    · obtain rfl : i = M := by omega
      have hlt2 : ¬ (i : Int) < (i : Int) := by omega
      clear hU hUl hbU hp
      go_wp2_with fail
      refine HA.out.mono ?_
      rintro e w2 ⟨hb2, ⟨rfl, hall, hO2⟩ | ⟨x, rfl, hxU, hxs, hO2⟩⟩
      · have h64 : 64 ∈ U := hall 64 (by
          have := slot_at (N := 2) (i := 0) HG.out (by have := HMM.out; omega)
          simpa using this)
        have HFR := Lib.hid (free_one HG.out 64 h64 w2 hO2)
        have HH := Lib.hid (And.intro h64 (And.intro hall hb2))
        have hUn := hO2.nodup
        have HUN := Lib.hid hUn
        clear hb2 h64 hall hO2 hUn
        dsimp only [alV]
        go_wp2_with fail
        refine HFR.out.mono ?_
        rintro e w3 ⟨rfl, hO3, hb3⟩
        have HA3 := Lib.hid (HAL.out B pa _ _ w3 hO3 (by omega))
        have HB3 := Lib.hid hb3
        have HO3 := Lib.hid hO3
        clear hO3 hb3
        go_wp2_with fail
        refine HA3.out.mono ?_
        rintro e w4 ⟨hb4, ⟨rfl, hall4, _⟩ | ⟨x, rfl, hxU, hxs, hO4⟩⟩
        · have := hall4 64 (HO3.out.slots HG.out |> fun _ => by
            have := slot_at (N := 2) (i := 0) HG.out (by have := HMM.out; omega)
            simpa using this)
          rw [HUN.out.mem_erase_iff] at this
          exact absurd rfl this.1
        · have hx : x = 64 := by
            refine Classical.byContradiction fun hne => hxU ?_
            rw [HUN.out.mem_erase_iff]
            exact ⟨hne, HH.out.2.1 x hxs⟩
          subst hx
          have HF : Hid (Below w.heap.size w w4) := Lib.hid (show Below w.heap.size w w4 from by
            have b := ((HU.out.2.2.trans HH.out.2.2).trans HB3.out).trans hb4
            rw [HWB.out] at b
            exact HBA.out.trans (b.mono (Below.size HBA.out)))
          clear hb4 hxU hxs hO4
          dsimp only [alV]
          go_wp2_with (first | (go_at_call 14; refine (HNUM.out _ _).mono ?_; rintro e w5 ⟨rfl, rfl⟩) | fail)
          go_ret
          exact ⟨rfl, HF.out⟩
      · exact absurd (hO2.len HG.out) (by have := HU.out.2.1; have := HMM.out; rw [List.length_append, List.length_singleton]; omega)
theorem arenaFlushes.walk (a0 : Int) (w : World) (w0 : (Lit.int .i64 a0).wf = true) :
    Calls Try.prog 5 #[.int .i64 a0] w fun e w' => e = .returned (.bool true) ∧ Below w.heap.size w w' := by
  by_cases h : 1 ≤ a0 ∧ a0 ≤ 31
  · obtain ⟨n, rfl⟩ : ∃ n : Nat, a0 = n := ⟨a0.toNat, by omega⟩
    exact arenaFlushes.into n w (by omega) (by omega)
  · exact arenaFlushes.out a0 w h
end Go.Proofs.Ytfiddodlpppdhaa

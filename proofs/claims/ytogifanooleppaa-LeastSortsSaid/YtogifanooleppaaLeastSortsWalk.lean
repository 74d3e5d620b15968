/- The walk of the law LeastSorts: it answers true for every input. -/
import Derived.Test.YtogifanooleppaaLeastT
namespace Go.Proofs.Ytogifanooleppaa
open Go.RowKit Go.Maps
set_option linter.unusedVariables false

theorem least_mem : ∀ R : List Int, R ≠ [] → ∃ z, z ∈ R ∧ ∀ y ∈ R, z ≤ y
  | [], h => absurd rfl h
  | [x], _ => ⟨x, by simp, fun y hy => by simp at hy; omega⟩
  | x :: x2 :: R, _ => by
    obtain ⟨z, h1, h2⟩ := least_mem (x2 :: R) (by simp)
    by_cases hx : x ≤ z
    · refine ⟨x, by simp, fun y hy => ?_⟩
      rcases List.mem_cons.1 hy with rfl | hy
      · exact Int.le_refl _
      · exact Int.le_trans hx (h2 y hy)
    · refine ⟨z, by simp [h1], fun y hy => ?_⟩
      rcases List.mem_cons.1 hy with rfl | hy
      · omega
      · exact h2 y hy
/-- where the law stands: the numbers of D are there -/
structure SoAt (B p N : Nat) (w wr : World) (D : List Int) : Prop where
  ls : LsAt B wr p N (fun y => decide (y ∈ D))
  nodup : D.Nodup
  wf : ∀ y ∈ D, (Lit.int .i64 y).wf = true
  bel : Below B w wr
theorem leastSorts.out (a0 : Option Addr) (len0 cap0 : Nat) (w : World) (h : 200 < len0) (hl : len0 ≤ 9223372036854775807) :
    Calls Try.prog 4 #[.slice a0 len0 cap0] w fun e w' => e = .returned (.bool true) ∧ Below w.heap.size w w' := by
  go_enter Try.func4, Try.ntmps4
  go_wp2_with (go_at_call 19; refine (alive10 _).mono ?_; rintro e w1 ⟨rfl, hb⟩)
  go_ret
  exact ⟨rfl, by assumption⟩
set_option maxRecDepth 100000 in
set_option maxHeartbeats 4000000 in
theorem leastSorts.inside (a0 : Option Addr) (len0 cap0 : Nat) (zl : Nat → Int) (w : World) (hlen : len0 ≤ 200) (hI : Ints .i64 w a0 len0 cap0 zl) :
    Calls Try.prog 4 #[.slice a0 len0 cap0] w fun e w' => e = .returned (.bool true) ∧ Below w.heap.size w w' := by
  have d1 : decide ((200 : Int) < (len0 : Int)) = false := by rw [decide_eq_false_iff_not]; omega
  have HI := Lib.hid hI
  have hcap := hI.le
  have hmax := hI.max
  have HN := Lib.hid (fun w => tNew w)
  obtain ⟨B, hB⟩ : ∃ B, B = w.heap.size := ⟨_, rfl⟩
  have HBE := Lib.hid hB
  clear hB hI
  go_enter Try.func4, Try.ntmps4
  go_wp2_with fail
  refine (alive10 _).mono ?_
  rintro e wa ⟨rfl, hba⟩
  have HBa := Lib.hid hba
  clear hba
  go_wp2_with fail
  refine (HN.out _).mono ?_
  rintro e w1 ⟨p, rfl, h1, hb1⟩
  have HS0 : Hid (SoAt B p 0 w w1 []) := (show SoAt B p 0 w w1 [] by
    have s1 := HBa.out.size
    rw [HBE.out]
    obtain ⟨m, c, q, l, M, k1, k2, k3, k4, k5, k6, k7, k8⟩ := h1
    exact ⟨⟨m, c, q, l, M, k1, k2, k3, fun y => by rw [k4 y]; simp, by omega, by omega, fun g hg => by have := k7 g hg; omega, by omega⟩, List.nodup_nil, fun y hy => (by cases hy), HBa.out.trans (hb1.mono s1)⟩)
  clear h1 hb1
  go_wp2_with fail
  go_loopw [5, 6] (fun nv iv wr => ∃ (k : Nat) (D : List Int), nv = .int .i64 (D.length : Nat) ∧ iv = .int .i64 (k : Nat) ∧ k ≤ len0 ∧ D.length ≤ k ∧ Hid (SoAt B p k w wr D)) (fun _ iv _ => len0 - (intOf iv).toNat)
  case atStart => exact ⟨0, [], rfl, rfl, Nat.zero_le _, Nat.le_refl _, HS0⟩
  case round =>
    obtain ⟨k, D, rfl, rfl, hk, hDk, hs⟩ := hrel
    obtain ⟨wo, rfl⟩ : ∃ wo : World, wo = wr := ⟨_, rfl⟩
    by_cases hlt : k < len0
    · obtain ⟨g, off, rfl, hg, hc0⟩ := HI.out.cell k hlt
      have hwf := HI.out.wf k hlt
      have HCC := Lib.hid (fun (W : World) (hb : Below B w W) => (show W.cell? ⟨g, off + k, none⟩ = some (.int .i64 (zl k)) from (hb.cell (p := ⟨g, off + k, none⟩) (by rw [HBE.out]; exact hg)).trans hc0))
      have hcell := HCC.out wo hs.out.bel
      have hi0 : (0 : Int) ≤ (k : Int) := by omega
      have hi1 : (k : Int) < (len0 : Int) := by omega
      generalize zl k = x at hwf HCC hcell
      have HWF := Lib.hid hwf
      have HH := Lib.hid (tHas x wo hs.out.ls hwf)
      have HP := Lib.hid (tPush x wo hs.out.ls hwf (by omega))
      clear hc0 hwf
      by_cases hm : x ∈ D
      · have e1 : decide (x ∈ D) = true := decide_eq_true hm
        rw [e1] at HH HP
        have HM := Lib.hid hm
        clear hm e1
        go_wp2_with fail
        refine HH.out.mono ?_
        rintro e w2 ⟨rfl, rfl⟩
        go_wp2_with fail
        refine HP.out.mono ?_
        rintro e w3 ⟨rfl, h3, hb3⟩
        have hb4 := hs.out.bel.trans hb3
        have c3 := HCC.out w3 hb4
        have HH2 := Lib.hid (tHas x w3 h3 HWF.out)
        rw [show (decide (x = x) || decide (x ∈ D)) = true by simp] at HH2
        have HS3 : Hid (SoAt B p (k + 1) w w3 D) := (show SoAt B p (k + 1) w w3 D from ⟨h3.congr fun y => by
          by_cases hy : y = x
          · rw [hy]; simp [HM.out]
          · simp [hy], hs.out.nodup, hs.out.wf, hb4⟩)
        clear h3 hb3 hb4
        go_wp2_with fail
        refine HH2.out.mono ?_
        rintro e w4 ⟨rfl, rfl⟩
        go_wp2
        go_roundw
        case rel => first | exact ⟨k + 1, D, rfl, by go_num, by omega, by omega, HS3⟩ | ((repeat apply Exists.intro); exact ⟨⟨k + 1, D, rfl, by go_num, by omega, by omega, HS3⟩, rfl⟩)
        case measure => simp [intOf]; omega
      · have e1 : decide (x ∈ D) = false := decide_eq_false hm
        rw [e1] at HH HP
        have HM := Lib.hid hm
        clear hm e1
        go_wp2_with fail
        refine HH.out.mono ?_
        rintro e w2 ⟨rfl, rfl⟩
        go_wp2_with fail
        refine HP.out.mono ?_
        rintro e w3 ⟨rfl, h3, hb3⟩
        have hb4 := hs.out.bel.trans hb3
        have c3 := HCC.out w3 hb4
        have HH2 := Lib.hid (tHas x w3 h3 HWF.out)
        rw [show (decide (x = x) || decide (x ∈ D)) = true by simp] at HH2
        have HS3 : Hid (SoAt B p (k + 1) w w3 (x :: D)) := (show SoAt B p (k + 1) w w3 (x :: D) from ⟨h3.congr fun y => by simp, List.nodup_cons.2 ⟨HM.out, hs.out.nodup⟩, fun y hy => by
          rcases List.mem_cons.1 hy with rfl | hy
          · exact HWF.out
          · exact hs.out.wf y hy, hb4⟩)
        clear h3 hb3 hb4
        go_wp2_with fail
        refine HH2.out.mono ?_
        rintro e w4 ⟨rfl, rfl⟩
        go_wp2
        go_roundw
        case rel => first | exact ⟨k + 1, x :: D, by rw [List.length_cons]; go_num, by go_num, by omega, by rw [List.length_cons]; omega, HS3⟩ | ((repeat apply Exists.intro); exact ⟨⟨k + 1, x :: D, by rw [List.length_cons]; go_num, by go_num, by omega, by rw [List.length_cons]; omega, HS3⟩, rfl⟩)
        case measure => simp [intOf]; omega
    · obtain rfl : k = len0 := by omega
      clear hlt
      obtain ⟨n, hn⟩ : ∃ n, n = D.length := ⟨_, rfl⟩
      have HNE := Lib.hid hn
      rw [← hn] at hDk ⊢
      clear hn
      go_wp2_with fail
      go_loopw [8, 9] (fun sv iv wr => ∃ (j : Nat) (s : Int) (R : List Int), sv = .int .i64 s ∧ iv = .int .i64 (j : Nat) ∧ j ≤ n ∧ Hid (j + R.length = n) ∧ Hid (0 < j → ∀ y ∈ R, s < y) ∧ Hid (SoAt B p k w wr R)) (fun _ iv _ => n - (intOf iv).toNat)
      case atStart => exact ⟨0, 0, D, rfl, rfl, Nat.zero_le _, (show 0 + D.length = n by rw [HNE.out]; omega), fun h => absurd h (by omega), hs⟩
      case round =>
        obtain ⟨j, s, R, rfl, rfl, hj, hjl, hgt, hso⟩ := hrel
        obtain ⟨wi, rfl⟩ : ∃ wi : World, wi = wr := ⟨_, rfl⟩
        by_cases hlt2 : j < n
        · obtain ⟨z, hz, hmin⟩ := least_mem R (by intro e; have := hjl.out; rw [e] at this; simp at this; omega)
          have HZ := Lib.hid hz
          have HMIN := Lib.hid hmin
          have HP := Lib.hid (tPop (some z) wi hso.out.ls (by omega) (.inr ⟨z, rfl, by simpa using hz, fun y hy => hmin y (by simpa using hy)⟩))
          simp only [Option.getD_some, Option.isSome_some] at HP
          have HZW := Lib.hid (hso.out.wf z hz)
          have hj1 : (j : Int) < (n : Int) := by omega
          clear hz hmin
          rcases (by omega : j = 0 ∨ 0 < j) with h0 | h0
          · have hj0 : ¬ ((0 : Int) < (j : Int)) := by omega
            clear h0
            go_wp2_with fail
            refine HP.out.mono ?_
            rintro e w2 ⟨rfl, h2, hb2⟩
            have HH := Lib.hid (tHas z w2 h2 HZW.out)
            rw [show (!decide (some z = some z) && decide (z ∈ R)) = false by simp] at HH
            have HS2 : Hid (SoAt B p k w w2 (R.erase z)) := (show SoAt B p k w w2 (R.erase z) from ⟨h2.congr fun y => by
              by_cases hy : y = z
              · subst hy; simp [hso.out.nodup.mem_erase_iff]
              · have : ¬ z = y := fun e => hy e.symm
                simp [hso.out.nodup.mem_erase_iff, hy, this], hso.out.nodup.erase z, fun y hy => hso.out.wf y (List.mem_of_mem_erase hy), hso.out.bel.trans hb2⟩)
            have HL2 : Hid (j + 1 + (R.erase z).length = n) := (show j + 1 + (R.erase z).length = n by
              have h1 := List.length_erase_of_mem HZ.out
              have h2 := List.length_pos_of_mem HZ.out
              have := hjl.out
              omega)
            have HG2 : Hid (0 < j + 1 → ∀ y ∈ R.erase z, z < y) := (show 0 < j + 1 → ∀ y ∈ R.erase z, z < y from fun _ y hy => by
              have h1 := hso.out.nodup.mem_erase_iff.1 hy
              have := HMIN.out y h1.2
              have := h1.1
              omega)
            clear h2 hb2
            go_wp2_with fail
            refine HH.out.mono ?_
            rintro e w3 ⟨rfl, rfl⟩
            go_wp2
            go_roundw
            case rel => first | exact ⟨j + 1, z, R.erase z, rfl, by go_num, by omega, HL2, HG2, HS2⟩ | ((repeat apply Exists.intro); exact ⟨⟨j + 1, z, R.erase z, rfl, by go_num, by omega, HL2, HG2, HS2⟩, rfl⟩)
            case measure => simp [intOf]; omega
          · have hj0 : (0 : Int) < (j : Int) := by omega
            have hzs : ¬ (z ≤ s) := by have := hgt.out h0 z HZ.out; omega
            clear h0
            go_wp2_with fail
            refine HP.out.mono ?_
            rintro e w2 ⟨rfl, h2, hb2⟩
            have HH := Lib.hid (tHas z w2 h2 HZW.out)
            rw [show (!decide (some z = some z) && decide (z ∈ R)) = false by simp] at HH
            have HS2 : Hid (SoAt B p k w w2 (R.erase z)) := (show SoAt B p k w w2 (R.erase z) from ⟨h2.congr fun y => by
              by_cases hy : y = z
              · subst hy; simp [hso.out.nodup.mem_erase_iff]
              · have : ¬ z = y := fun e => hy e.symm
                simp [hso.out.nodup.mem_erase_iff, hy, this], hso.out.nodup.erase z, fun y hy => hso.out.wf y (List.mem_of_mem_erase hy), hso.out.bel.trans hb2⟩)
            have HL2 : Hid (j + 1 + (R.erase z).length = n) := (show j + 1 + (R.erase z).length = n by
              have h1 := List.length_erase_of_mem HZ.out
              have h2 := List.length_pos_of_mem HZ.out
              have := hjl.out
              omega)
            have HG2 : Hid (0 < j + 1 → ∀ y ∈ R.erase z, z < y) := (show 0 < j + 1 → ∀ y ∈ R.erase z, z < y from fun _ y hy => by
              have h1 := hso.out.nodup.mem_erase_iff.1 hy
              have := HMIN.out y h1.2
              have := h1.1
              omega)
            clear h2 hb2
            go_wp2_with fail
            refine HH.out.mono ?_
            rintro e w3 ⟨rfl, rfl⟩
            go_wp2
            go_roundw
            case rel => first | exact ⟨j + 1, z, R.erase z, rfl, by go_num, by omega, HL2, HG2, HS2⟩ | ((repeat apply Exists.intro); exact ⟨⟨j + 1, z, R.erase z, rfl, by go_num, by omega, HL2, HG2, HS2⟩, rfl⟩)
            case measure => simp [intOf]; omega
        · obtain rfl : j = n := by omega
          have hR : R = [] := List.length_eq_zero_iff.1 (by have := hjl.out; omega)
          have HP := Lib.hid (tPop none wi hso.out.ls (by omega) (.inl ⟨rfl, fun y => by rw [hR]; simp⟩))
          simp only [Option.getD_none, Option.isSome_none] at HP
          clear hlt2 hR
          go_wp2_with fail
          refine HP.out.mono ?_
          rintro e w2 ⟨rfl, _, hb2⟩
          have HBF := Lib.hid (hso.out.bel.trans hb2)
          clear hb2
          go_wp2
          go_ret
          exact ⟨rfl, by rw [← HBE.out]; exact HBF.out⟩
theorem leastSorts.walk (a0 : Option Addr) (len0 cap0 : Nat) (z0 : Nat → Int) (w : World) (w0 : Ints .i64 w a0 len0 cap0 z0) :
    Calls Try.prog 4 #[.slice a0 len0 cap0] w fun e w' => e = .returned (.bool true) ∧ Below w.heap.size w w' := by
  by_cases h : 200 < len0
  · exact leastSorts.out a0 len0 cap0 w h (Nat.le_trans w0.le w0.max)
  · exact leastSorts.inside a0 len0 cap0 z0 w (by omega) w0
end Go.Proofs.Ytogifanooleppaa

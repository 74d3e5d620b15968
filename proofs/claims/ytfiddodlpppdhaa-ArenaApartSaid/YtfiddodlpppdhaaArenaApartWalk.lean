/- The walk of the law ArenaApart: it answers true for every input. -/
import Derived.Test.YtfiddodlpppdhaaAsApartM
import Derived.Test.YtfiddodlpppdhaaOpen
namespace Go.Proofs.Ytfiddodlpppdhaa
open Go.RowKit Go.Maps
set_option linter.unusedVariables false
theorem szI_bd {n : Nat} (h1 : 1 ≤ n) (h2 : n ≤ 100) : szI n ≤ 192 := by unfold szI szOf pagesOf; omega
section
variable {w0 wr : World} {pa K M go p n m k g off L cap : Nat} {A : Ar} {O : Nat → Int} {R : List (Nat × Nat × Nat)} {vP vS vM : Value}
theorem row_some {l : List Int} {x : Int} {a : Option Addr} (h : RowS wr 1 (.slice a L cap) L (intC l)) (hx : l[k]? = some x) : ∃ g off, a = some ⟨g, off, none⟩ := by
  obtain ⟨a', c', e, _, _, _, h4⟩ := h.read
  cases e
  obtain ⟨b, off, h1, _⟩ := h4 k (.int .i64 x) (by unfold intC; rw [List.getElem?_map, hx]; rfl)
  exact ⟨b, off, h1⟩
theorem row_at {l : List Int} {x : Int} (h : RowS wr 1 (.slice (some ⟨g, off, none⟩) L cap) L (intC l)) (hx : l[k]? = some x) : wr.cell? ⟨g, off + k, none⟩ = some (.int .i64 x) := by
  obtain ⟨a', c', e, _, _, _, h4⟩ := h.read
  cases e
  obtain ⟨b, off, h1, _, h2⟩ := h4 k (.int .i64 x) (by unfold intC; rw [List.getElem?_map, hx]; rfl)
  cases h1
  exact h2
theorem ApW.cellP (h : ApW w0 pa K M go A O R (.slice (some ⟨g, off, none⟩) L cap) vS vM wr) (hL : L = R.length) (hk : R[k]? = some (p, n, m)) : wr.cell? ⟨g, off + k, none⟩ = some (.int .i64 (p : Nat)) := by
  subst hL
  exact row_at h.rows.1 (col_at hk).1
theorem ApW.cellS (h : ApW w0 pa K M go A O R vP (.slice (some ⟨g, off, none⟩) L cap) vM wr) (hL : L = R.length) (hk : R[k]? = some (p, n, m)) : wr.cell? ⟨g, off + k, none⟩ = some (.int .i64 (n : Nat)) := by
  subst hL
  exact row_at h.rows.2.1 (col_at hk).2.1
theorem ApW.cellM (h : ApW w0 pa K M go A O R vP vS (.slice (some ⟨g, off, none⟩) L cap) wr) (hL : L = R.length) (hk : R[k]? = some (p, n, m)) : wr.cell? ⟨g, off + k, none⟩ = some (.int .i64 (m : Nat)) := by
  subst hL
  exact row_at h.rows.2.2 (col_at hk).2.2
theorem ApW.spell (h : ApW w0 pa K M go A O R vP vS vM wr) (hL : L = R.length) : ∃ aP cP aS cS aM cM, vP = .slice aP L cP ∧ vS = .slice aS L cS ∧ vM = .slice aM L cM := by
  subst hL
  obtain ⟨r1, r2, r3⟩ := h.rows
  obtain ⟨aP, cP, e1, _⟩ := r1.read
  obtain ⟨aS, cS, e2, _⟩ := r2.read
  obtain ⟨aM, cM, e3, _⟩ := r3.read
  exact ⟨aP, cP, aS, cS, aM, cM, e1, e2, e3⟩
end
theorem ApW.somes {w0 wr : World} {pa K M go p n m k L cP cS cM : Nat} {A : Ar} {O : Nat → Int} {R : List (Nat × Nat × Nat)} {aP aS aM : Option Addr} (h : ApW w0 pa K M go A O R (.slice aP L cP) (.slice aS L cS) (.slice aM L cM) wr) (hL : L = R.length) (hk : R[k]? = some (p, n, m)) : ∃ gP oP gS oS gM oM, aP = some ⟨gP, oP, none⟩ ∧ aS = some ⟨gS, oS, none⟩ ∧ aM = some ⟨gM, oM, none⟩ := by
  subst hL
  obtain ⟨r1, r2, r3⟩ := h.rows
  obtain ⟨gP, oP, e1⟩ := row_some r1 (col_at hk).1
  obtain ⟨gS, oS, e2⟩ := row_some r2 (col_at hk).2.1
  obtain ⟨gM, oM, e3⟩ := row_some r3 (col_at hk).2.2
  exact ⟨gP, oP, gS, oS, gM, oM, e1, e2, e3⟩
/-- where the law's loop stands -/
def ApL (w0 : World) (pa M go N : Nat) (i : Nat) (vP vS vM : Value) (wr : World) : Prop := ∃ A O R, R.length ≤ i ∧ A.N = N ∧ ApI A O R ∧ ApW w0 pa (72 * i) M go A O R vP vS vM wr
set_option maxRecDepth 100000 in
set_option maxHeartbeats 1000000 in
theorem arenaApart.out (a0 a1 : Int) (a2 : Option Addr) (len2 cap2 : Nat) (w : World) (h : ¬ (1 ≤ a0 ∧ a0 ≤ 30 ∧ len2 ≤ 80)) (hl : len2 ≤ 9223372036854775807) :
    Calls Try.prog 7 #[.int .i64 a0, .int .i64 a1, .slice a2 len2 cap2] w fun e w' => e = .returned (.bool true) ∧ Below w.heap.size w w' := by
  rcases (by omega : a0 < 1 ∨ (1 ≤ a0 ∧ 30 < a0) ∨ (1 ≤ a0 ∧ a0 ≤ 30 ∧ 80 < len2)) with h | h | h
  all_goals
    go_enter Try.func7, Try.ntmps7
    go_wp2_with (go_at_call 10; refine (alive_any _).mono ?_; rintro e w1 ⟨rfl, hb⟩)
    go_ret
    exact ⟨rfl, by assumption⟩
set_option maxRecDepth 100000 in
set_option maxHeartbeats 4000000 in
theorem arenaApart.into (N : Nat) (a1 : Int) (a2 : Option Addr) (len2 cap2 : Nat) (zl : Nat → Int) (w : World) (hn1 : 1 ≤ N) (hn2 : N ≤ 30) (hlen : len2 ≤ 80) (hI : Ints .i64 w a2 len2 cap2 zl) :
    Calls Try.prog 7 #[.int .i64 (N : Nat), .int .i64 a1, .slice a2 len2 cap2] w fun e w' => e = .returned (.bool true) ∧ Below w.heap.size w w' := by
  have d1 : decide ((N : Int) < 1) = false := by rw [decide_eq_false_iff_not]; omega
  have d2 : decide ((30 : Int) < (N : Int)) = false := by rw [decide_eq_false_iff_not]; omega
  have d3 : decide ((80 : Int) < (len2 : Int)) = false := by rw [decide_eq_false_iff_not]; omega
  have HI := Lib.hid hI
  obtain ⟨M, hM⟩ : ∃ M, M = 64 * N := ⟨_, rfl⟩
  have hMw : IntKind.i64.wrap (64 * (N : Int)) = (M : Int) := by rw [IntWalk.i64_in _ (by omega)]; omega
  have HNUM := Lib.hid (fun e w => num_any e w)
  have HNW := Lib.hid (fun w => arNew_at (N : Int) a1 w)
  rw [show pagesN (N : Int) = N by unfold pagesN; omega] at HNW
  obtain ⟨i0, hi, hz0, hz1, hz2⟩ := info_parts leastInfo1
  obtain ⟨Z, hZ⟩ : ∃ Z, Z = madeCells #[Value.int .i64 0] M := ⟨_, rfl⟩
  have hmk : ∀ W : World, (Instr.makeSlice 35 (.int .i64 (M : Nat)) (.int .i64 (M : Nat))).run Try.prog W = .ok (.slice (some ⟨W.heap.size, 0, none⟩) M M) (W.alloc (.cells Z 3)) := by
    intro W
    have := makes_len (P := Try.prog) 35 3 i0 (.int .i64 0) Try.underlying35 hi hz0 .i64 .i64 M M (Nat.le_refl _) (by rw [hz2]; omega) (by omega) W
    rw [hz1, Nat.mul_one] at this
    rw [hZ]
    exact this
  have HIN := Lib.hid hi
  have HZ0 := Lib.hid hz0
  have HZ1 := Lib.hid hz1
  have HZ2 := Lib.hid hz2
  have HZ := Lib.hid hZ
  have HM := Lib.hid hM
  clear hI hi hz0 hz1 hz2 hZ hM
  go_enter Try.func7, Try.ntmps7
  go_wp2_with fail
  refine (alive_any _).mono ?_
  rintro e wa ⟨rfl, hba⟩
  have HIA := Lib.hid (HI.out.below hba)
  have HBA := Lib.hid hba
  clear hba
  go_wp2_with fail
  refine (HNW.out _).mono ?_
  rintro e wb ⟨pa, rfl, hO, _, hbb⟩
  obtain ⟨go, hgo⟩ : ∃ go, go = wb.heap.size := ⟨_, rfl⟩
  have HL0 : Hid (ApL wa pa M go N 0 (.slice none 0 0) (.slice none 0 0) (.slice none 0 0) (wb.alloc (.cells Z 3))) := Lib.hid (show ApL wa pa M go N 0 (.slice none 0 0) (.slice none 0 0) (.slice none 0 0) (wb.alloc (.cells Z 3)) from ⟨newA N (budN a1), fun _ => 0, [], Nat.le_refl _, rfl, ApI.new ⟨hn1, Nat.le_trans hn2 (by decide)⟩, by rw [HZ.out, hgo]; exact ApW.start hO hbb _ M⟩)
  have HGO := Lib.hid hgo
  clear hO hbb hgo
  go_wp2_with fail
  rw [← HGO.out]
  go_loopw [10, 11, 12, 13] (fun vP vS vM iv wr => ∃ i : Nat, iv = .int .i64 (i : Nat) ∧ i ≤ len2 ∧ Hid (ApL wa pa M go N i vP vS vM wr)) (fun _ _ _ iv _ => len2 - (intOf iv).toNat)
  case atStart => exact ⟨0, rfl, Nat.zero_le _, HL0⟩
  case round =>
    obtain ⟨i, rfl, hi, hs⟩ := hrel
    obtain ⟨wo, rfl⟩ : ∃ wo : World, wo = wr := ⟨_, rfl⟩
    obtain ⟨A, O, R, hRl, hAN, hAI, hAW⟩ := hs.out
    have HAI := Lib.hid hAI
    have HAW := Lib.hid hAW
    have HAN := Lib.hid hAN
    clear hs
    by_cases hlt : i < len2
    · obtain ⟨g2, off2, rfl, hg2, hc2⟩ := HIA.out.cell i hlt
      have hcell : wo.cell? ⟨g2, off2 + i, none⟩ = some (.int .i64 (zl i)) := (hAW.below.cell (p := ⟨g2, off2 + i, none⟩) hg2).trans hc2
      have hi0 : (0 : Int) ≤ (i : Int) := by omega
      have hi1 : (i : Int) < (len2 : Int) := by omega
      obtain ⟨L, hL⟩ : ∃ L, L = R.length := ⟨_, rfl⟩
      obtain ⟨aP, cP, aS, cS, aM, cM, rfl, rfl, rfl⟩ := hAW.spell hL
      have HLE := Lib.hid hL
      have hLi : L ≤ 80 := by omega
      obtain ⟨z, hz⟩ : ∃ z, z = zl i := ⟨_, rfl⟩
      rw [← hz] at hcell
      obtain ⟨v3, hv3, hv3'⟩ := and_low z 3 (by decide)
      rw [show ((3 : Nat) : Int) = 3 from rfl] at hv3
      clear hAI hAW hAN hc2 hz hL
      have hii : IntKind.i64.wrap ((i : Int) + 1) = ((i + 1 : Nat) : Int) := by rw [IntWalk.i64_in _ (by omega)]; omega
      by_cases hcase : v3 = 3 ∧ 0 < L
      · obtain ⟨rfl, hL0⟩ := hcase
        have hL0' : (0 : Int) < (L : Int) := by omega
        obtain ⟨q, hq, hq'⟩ := and_low (z / 4) 1023 (by decide)
        rw [show ((1023 : Nat) : Int) = 1023 from rfl] at hq
        obtain ⟨k, hk⟩ : ∃ k, k = q % L := ⟨_, rfl⟩
        have hkL : k < L := by rw [hk]; exact Nat.mod_lt _ hL0
        have htm : (q : Int).tmod (L : Int) = (k : Int) := by
          rw [Int.tmod_eq_emod_of_nonneg (by omega), hk]
          rfl
        have hkw : IntKind.i64.wrap (k : Int) = (k : Int) := IntWalk.i64_in _ (by omega)
        have hk0 : (0 : Int) ≤ (k : Int) := by omega
        have hk1 : (k : Int) < (L : Int) := by omega
        have hLz : ((L : Int) == 0) = false := by rw [beq_eq_false_iff_ne]; omega
        have hLz' : ¬ (L : Int) = 0 := by omega
        have hkR : k < R.length := by rw [← HLE.out]; exact hkL
        obtain ⟨⟨p, n, m⟩, hRk⟩ : ∃ r, R[k]? = some r := ⟨_, List.getElem?_eq_getElem hkR⟩
        obtain ⟨gP, oP, gS, oS, gM, oM, rfl, rfl, rfl⟩ := HAW.out.somes HLE.out hRk
        have HRK := Lib.hid hRk
        obtain ⟨hp, hn64, hm80⟩ := HAI.out.bd k p n m hRk
        have cS0 := HAW.out.cellS HLE.out hRk
        clear hk hkR hRk hq'
        by_cases hn : n = 0
        · subst hn
          have HE : Hid (ApL wa pa M go N (i + 1) (.slice (some ⟨gP, oP, none⟩) L cP) (.slice (some ⟨gS, oS, none⟩) L cS) (.slice (some ⟨gM, oM, none⟩) L cM) wo) := Lib.hid (show ApL wa pa M go N (i + 1) (.slice (some ⟨gP, oP, none⟩) L cP) (.slice (some ⟨gS, oS, none⟩) L cS) (.slice (some ⟨gM, oM, none⟩) L cM) wo from ⟨A, O, R, by omega, HAN.out, HAI.out, HAW.out.mono (by omega)⟩)
          clear hRl
          go_wp2_with fail
          go_roundw
          case rel => first | exact ⟨i + 1, by go_num, by omega, HE⟩ | ((repeat apply Exists.intro); exact ⟨⟨i + 1, by go_num, by omega, HE⟩, rfl⟩)
          case measure => simp [intOf]; omega
        · obtain ⟨b, hlb, hba, hwd⟩ := HAI.out.recs k p n m HRK.out hn
          obtain ⟨hBb, hSb⟩ := liveB_some.1 hlb
          obtain ⟨_, hpN, hp64, hbs⟩ := HAI.out.fine.ok.size_pos hBb
          have hpM : p + n ≤ M := by rw [HM.out, ← HAN.out]; omega
          have hMb : M ≤ 1920 := by have := HM.out; omega
          have HWD := Lib.hid hwd
          have HBB := Lib.hid hBb
          have HSB := Lib.hid hSb
          have HLB := Lib.hid hlb
          have HBS := Lib.hid hba
          have hnz : ((n : Int) == 0) = false := by rw [beq_eq_false_iff_ne]; omega
          have HP0 : Hid (ApW wa pa (72 * i) M go A (fillZ O p 0 0) R (.slice (some ⟨gP, oP, none⟩) L cP) (.slice (some ⟨gS, oS, none⟩) L cS) (.slice (some ⟨gM, oM, none⟩) L cM) wo) := Lib.hid (show ApW wa pa (72 * i) M go A (fillZ O p 0 0) R (.slice (some ⟨gP, oP, none⟩) L cP) (.slice (some ⟨gS, oS, none⟩) L cS) (.slice (some ⟨gM, oM, none⟩) L cM) wo from by rw [fillZ_zero]; exact HAW.out)
          clear hlb hba hwd hBb hSb hpN hbs
          go_wp2_with fail
          go_loopw [15] (fun jv wr => ∃ j : Nat, jv = .int .i64 (j : Nat) ∧ j ≤ n ∧ Hid (ApW wa pa (72 * i) M go A (fillZ O p j 0) R (.slice (some ⟨gP, oP, none⟩) L cP) (.slice (some ⟨gS, oS, none⟩) L cS) (.slice (some ⟨gM, oM, none⟩) L cM) wr)) (fun jv _ => n - (intOf jv).toNat)
          case atStart => exact ⟨0, rfl, Nat.zero_le _, HP0⟩
          case round =>
            obtain ⟨j, rfl, hj, hs⟩ := hrel
            obtain ⟨wi, rfl⟩ : ∃ wi : World, wi = wr := ⟨_, rfl⟩
            have cP1 := hs.out.cellP HLE.out HRK.out
            have cS1 := hs.out.cellS HLE.out HRK.out
            have cM1 := hs.out.cellM HLE.out HRK.out
            by_cases hjn : j < n
            · have hjn' : (j : Int) < (n : Int) := by omega
              have hjj : IntKind.i64.wrap ((j : Int) + 1) = ((j + 1 : Nat) : Int) := by rw [IntWalk.i64_in _ (by omega)]; omega
              obtain ⟨x, hx⟩ : ∃ x, x = p + j := ⟨_, rfl⟩
              obtain ⟨y, hy⟩ : ∃ y, y = m * 1000 + j := ⟨_, rfl⟩
              obtain ⟨m1, hm1⟩ : ∃ m1, m1 = m * 1000 := ⟨_, rfl⟩
              have hxw : IntKind.i64.wrap ((p : Int) + (j : Int)) = (x : Int) := by rw [IntWalk.i64_in _ (by omega)]; omega
              have hm1w : IntKind.i64.wrap ((m : Int) * 1000) = (m1 : Int) := by rw [IntWalk.i64_in _ (by omega)]; omega
              have hyw : IntKind.i64.wrap ((m1 : Int) + (j : Int)) = (y : Int) := by rw [IntWalk.i64_in _ (by omega)]; omega
              have hyu : IntKind.u64.wrap (y : Int) = (y : Int) := wrap_u64 y (by omega)
              have hx0 : (0 : Int) ≤ (x : Int) := by omega
              have hx1 : (x : Int) < (M : Int) := by omega
              obtain ⟨o1, o2⟩ := hs.out.own.cell (i := x) (by omega)
              have HRD : Hid (Calls Try.prog 17 #[.pointer (some ⟨pa, 0, none⟩), .int .i64 (x : Nat)] wi (fun e w' => e = .returned (.tuple #[.int .u64 (y : Nat), .int .i64 0]) ∧ wi = w')) := Lib.hid (show Calls Try.prog 17 #[.pointer (some ⟨pa, 0, none⟩), .int .i64 (x : Nat)] wi (fun e w' => e = .returned (.tuple #[.int .u64 (y : Nat), .int .i64 0]) ∧ wi = w') from by
                have := a3_read hs.out HAI.out.fine.ok x (by rw [HAN.out, ← HM.out]; omega)
                rw [hx, HWD.out j hjn, ← hy, ← hx] at this
                exact this)
              have HN : Hid (ApW wa pa (72 * i) M go A (fillZ O p (j + 1) 0) R (.slice (some ⟨gP, oP, none⟩) L cP) (.slice (some ⟨gS, oS, none⟩) L cS) (.slice (some ⟨gM, oM, none⟩) L cM) (wi.setCell ⟨go, x, none⟩ (.int .i64 0))) := Lib.hid (show ApW wa pa (72 * i) M go A (fillZ O p (j + 1) 0) R (.slice (some ⟨gP, oP, none⟩) L cP) (.slice (some ⟨gS, oS, none⟩) L cS) (.slice (some ⟨gM, oM, none⟩) L cM) (wi.setCell ⟨go, x, none⟩ (.int .i64 0)) from by
                have := hs.out.setO x 0
                rw [hx, fillZ_succ, ← hx] at this
                exact this)
              clear hs hx hy hm1
              go_wp2_with fail
              refine HRD.out.mono ?_
              rintro e w3 ⟨rfl, rfl⟩
              go_wp2
              go_roundw
              case rel => first | exact ⟨j + 1, by go_num, by omega, HN⟩ | ((repeat apply Exists.intro); exact ⟨⟨j + 1, by go_num, by omega, HN⟩, rfl⟩)
              case measure => simp [intOf]; omega
            · obtain rfl : j = n := by omega
              have hjn' : ¬ (j : Int) < (j : Int) := by omega
              have HFR := Lib.hid (a3_free hs.out HAI.out.fine.ok p b HBB.out HSB.out (HAI.out.fine.use p b HBB.out HSB.out))
              obtain ⟨ff, lf, nf, _⟩ := HAI.out.fine.free_ HBB.out HSB.out
              have hlf : liveB (freeA A p b) p = none := by rw [lf, updO_eq]
              have HIF := Lib.hid (HAI.out.free HRK.out hn HLB.out HBS.out)
              have HNF := Lib.hid (nf.trans HAN.out)
              obtain ⟨Af, hAf⟩ : ∃ Af, Af = freeA A p b := ⟨_, rfl⟩
              rw [← hAf] at HFR hlf HIF HNF
              have HLF := Lib.hid hlf
              clear hs ff lf nf hlf hAf
              go_wp2_with fail
              refine HFR.out.mono ?_
              rintro e w3 ⟨rfl, hs3⟩
              have cP3 := hs3.cellP HLE.out HRK.out
              have HF3 := Lib.hid (a3_no hs3 p hp HLF.out)
              have HS3 := Lib.hid hs3
              clear hs3
              go_wp2_with (first | (go_at_call 14; refine (HNUM.out _ _).mono ?_; rintro e w5 ⟨rfl, rfl⟩) | fail)
              refine HF3.out.mono ?_
              rintro e w4 ⟨rfl, k4, rfl⟩
              have hs4 := HS3.out.drewN k4
              have cS4 := hs4.cellS HLE.out HRK.out
              obtain ⟨hs5, fS5⟩ := hs4.back HLE.out HRK.out
              have HE : Hid (ApL wa pa M go N (i + 1) (.slice (some ⟨gP, oP, none⟩) L cP) (.slice (some ⟨gS, oS, none⟩) L cS) (.slice (some ⟨gM, oM, none⟩) L cM) ((w3.drewN k4).setCell ⟨gS, oS + k, none⟩ (.int .i64 0))) := Lib.hid (show ApL wa pa M go N (i + 1) (.slice (some ⟨gP, oP, none⟩) L cP) (.slice (some ⟨gS, oS, none⟩) L cS) (.slice (some ⟨gM, oM, none⟩) L cM) ((w3.drewN k4).setCell ⟨gS, oS + k, none⟩ (.int .i64 0)) from ⟨Af, _, R.set k (p, 0, m), by rw [List.length_set]; omega, HNF.out, HIF.out, hs5.mono (by omega)⟩)
              clear hs4 hs5 hRl
              go_wp2_with (first | (go_at_call 14; refine (HNUM.out _ _).mono ?_; rintro e w5 ⟨rfl, rfl⟩) | fail)
              go_roundw
              case rel => first | exact ⟨i + 1, by go_num, by omega, HE⟩ | ((repeat apply Exists.intro); exact ⟨⟨i + 1, by go_num, by omega, HE⟩, rfl⟩)
              case measure => simp [intOf]; omega
      · obtain ⟨v, hv, hv63⟩ := and_low (z / 4) 63 (by decide)
        rw [show ((63 : Nat) : Int) = 63 from rfl] at hv
        obtain ⟨n, hn⟩ : ∃ n, n = v + 1 := ⟨_, rfl⟩
        have hn1' : 1 ≤ n := by omega
        have hn64 : n ≤ 64 := by omega
        have hsum : (1 : Int) + (v : Int) = (n : Int) := by omega
        have hsumw : IntKind.i64.wrap (1 + (v : Int)) = (n : Int) := by rw [IntWalk.i64_in _ (by omega)]; omega
        have hnw : IntKind.i64.wrap (n : Int) = (n : Int) := IntWalk.i64_in _ (by omega)
        obtain ⟨i2, hi2⟩ : ∃ i2, i2 = i + 1 := ⟨_, rfl⟩
        have hi2w : IntKind.i64.wrap ((i : Int) + 1) = (i2 : Int) := by rw [IntWalk.i64_in _ (by omega)]; omega
        have hszb := szI_bd hn1' (show n ≤ 100 by omega)
        have HAL := Lib.hid (a3_alloc HAW.out HAI.out.fine.ok hn1' (show n ≤ 65536 by omega) (by omega))
        obtain ⟨K2, hK2⟩ : ∃ K2, K2 = 72 * i + 2 * (33 + szI n / 64) := ⟨_, rfl⟩
        have hK2b : K2 ≤ 72 * i2 := by omega
        rw [← hK2] at HAL
        have HR := Lib.hid hRl
        have HI2 := Lib.hid hi2
        have HK2 := Lib.hid hK2b
        have hb : (((v3 : Int) == 3) = false) ∨ (((v3 : Int) == 3) = true ∧ ¬ (0 : Int) < (L : Int)) := by
          by_cases h3 : v3 = 3
          · exact .inr ⟨by rw [h3]; rfl, fun h => hcase ⟨h3, by omega⟩⟩
          · exact .inl (by rw [beq_eq_false_iff_ne]; omega)
        clear hRl hn hK2 hszb hcase hii hK2b hi2
        rcases hb with hb | ⟨hb, hb2⟩
        all_goals
          go_wp2_with fail
          refine HAL.out.mono ?_
          rintro e w2 ⟨r, A', rfl, hr, hs2⟩
          cases r with
          | none =>
            obtain ⟨f', eN, _, e3, _⟩ := hr.fine HAI.out.fine hn1' (show n ≤ 65536 by omega) trivial
            have HE : Hid (ApL wa pa M go N i2 (.slice aP L cP) (.slice aS L cS) (.slice aM L cM) w2) := Lib.hid (show ApL wa pa M go N i2 (.slice aP L cP) (.slice aS L cS) (.slice aM L cM) w2 from ⟨A', O, R, by have := HR.out; have := HI2.out; omega, eN.trans HAN.out, HAI.out.same f' (e3 rfl).1 (e3 rfl).2, hs2.mono HK2.out⟩)
            clear hr hs2 f' eN e3
            have hle : i2 ≤ len2 := by have := HI2.out; omega
            have hme : len2 - i2 < len2 - i := by have := HI2.out; omega
            dsimp only [alV]
            go_wp2_with (first | (go_at_call 14; refine (HNUM.out _ _).mono ?_; rintro e w5 ⟨rfl, rfl⟩) | fail)
            go_roundw
            case rel => first | exact ⟨i2, by first | rfl | go_num, hle, HE⟩ | ((repeat apply Exists.intro); exact ⟨⟨i2, by first | rfl | go_num, hle, HE⟩, rfl⟩)
            case measure => simp [intOf]; omega
          | some p =>
            obtain ⟨hlp, eN, f', hp64, hpN, hw0, hO0, hIn⟩ := HAI.out.add hr hn1' hn64 (m := i) (by omega)
            have hMb : M ≤ 1920 := by have := HM.out; omega
            have hpM : p + n ≤ M := by rw [HM.out, ← HAN.out]; exact hpN
            rw [show (i : Int) + 1 = (i2 : Int) by have := HI2.out; omega] at hIn
            obtain ⟨pn, hpn⟩ : ∃ pn, pn = p + n := ⟨_, rfl⟩
            have hpnw : IntKind.i64.wrap ((p : Int) + (n : Int)) = (pn : Int) := by rw [IntWalk.i64_in _ (by omega)]; omega
            have e1 : decide ((p : Int) < 64) = false := by rw [decide_eq_false_iff_not]; omega
            have e2 : decide (M < pn) = false := by rw [decide_eq_false_iff_not]; omega
            have e3 : decide ((M : Int) < (pn : Int)) = false := by rw [decide_eq_false_iff_not]; omega
            have HP0 : Hid (ApW wa pa K2 M go (marksA A' p i 0) (fillZ O p 0 (i2 : Int)) R (.slice aP L cP) (.slice aS L cS) (.slice aM L cM) w2) := Lib.hid (show ApW wa pa K2 M go (marksA A' p i 0) (fillZ O p 0 (i2 : Int)) R (.slice aP L cP) (.slice aS L cS) (.slice aM L cM) w2 from by rw [fillZ_zero, marksA_zero]; exact hs2)
            have HW0 := Lib.hid hw0
            have HO0 := Lib.hid hO0
            have HIN2 := Lib.hid hIn
            have HOK := Lib.hid (fun j (hj : j ≤ n) => (marksA_fine (m := i) f' hlp j hj).ok)
            have HN2 := Lib.hid (eN.trans HAN.out)
            clear hr hs2 hlp eN f' hpN hw0 hO0 hIn
            dsimp only [alV]
            go_wp2_with (first | (go_at_call 14; refine (HNUM.out _ _).mono ?_; rintro e w5 ⟨rfl, rfl⟩) | fail)
            go_loopw [21] (fun jv wr => ∃ j : Nat, jv = .int .i64 (j : Nat) ∧ j ≤ n ∧ Hid (ApW wa pa K2 M go (marksA A' p i j) (fillZ O p j (i2 : Int)) R (.slice aP L cP) (.slice aS L cS) (.slice aM L cM) wr)) (fun jv _ => n - (intOf jv).toNat)
            case atStart => exact ⟨0, rfl, Nat.zero_le _, HP0⟩
            case round =>
              obtain ⟨j, rfl, hj, hs⟩ := hrel
              obtain ⟨wi, rfl⟩ : ∃ wi : World, wi = wr := ⟨_, rfl⟩
              by_cases hjn : j < n
              · have hjn' : (j : Int) < (n : Int) := by omega
                have hjj : IntKind.i64.wrap ((j : Int) + 1) = ((j + 1 : Nat) : Int) := by rw [IntWalk.i64_in _ (by omega)]; omega
                obtain ⟨x, hx⟩ : ∃ x, x = p + j := ⟨_, rfl⟩
                obtain ⟨y, hy⟩ : ∃ y, y = i * 1000 + j := ⟨_, rfl⟩
                obtain ⟨m1, hm1⟩ : ∃ m1, m1 = i * 1000 := ⟨_, rfl⟩
                have hxw : IntKind.i64.wrap ((p : Int) + (j : Int)) = (x : Int) := by rw [IntWalk.i64_in _ (by omega)]; omega
                have hm1w : IntKind.i64.wrap ((i : Int) * 1000) = (m1 : Int) := by rw [IntWalk.i64_in _ (by omega)]; omega
                have hyw : IntKind.i64.wrap ((m1 : Int) + (j : Int)) = (y : Int) := by rw [IntWalk.i64_in _ (by omega)]; omega
                have hyu : IntKind.u64.wrap (y : Int) = (y : Int) := wrap_u64 y (by omega)
                have hx0 : (0 : Int) ≤ (x : Int) := by omega
                have hx1 : (x : Int) < (M : Int) := by omega
                have hxN : x < 64 * A'.N := by rw [HN2.out, ← HM.out]; omega
                obtain ⟨o1, o2⟩ := hs.out.own.cell (i := x) (by omega)
                rw [show fillZ O p j (i2 : Int) x = 0 by
                  unfold fillZ
                  rw [if_neg (by omega), hx]
                  exact HO0.out j hjn] at o1
                have HRD : Hid (Calls Try.prog 17 #[.pointer (some ⟨pa, 0, none⟩), .int .i64 (x : Nat)] wi (fun e w' => e = .returned (.tuple #[.int .u64 0, .int .i64 0]) ∧ wi = w')) := Lib.hid (show Calls Try.prog 17 #[.pointer (some ⟨pa, 0, none⟩), .int .i64 (x : Nat)] wi (fun e w' => e = .returned (.tuple #[.int .u64 0, .int .i64 0]) ∧ wi = w') from by
                  have := a3_read hs.out (HOK.out j (by omega)) x hxN
                  rw [hx, marksA_next (HW0.out j hjn), ← hx] at this
                  exact this)
                have HWR : Hid (Calls Try.prog 18 #[.pointer (some ⟨pa, 0, none⟩), .int .i64 (x : Nat), .int .u64 (y : Nat)] (wi.setCell ⟨go, x, none⟩ (.int .i64 (i2 : Nat))) (fun e w' => e = .returned (.int .i64 0) ∧ ApW wa pa K2 M go (marksA A' p i (j + 1)) (fillZ O p (j + 1) (i2 : Int)) R (.slice aP L cP) (.slice aS L cS) (.slice aM L cM) w')) := Lib.hid (show Calls Try.prog 18 #[.pointer (some ⟨pa, 0, none⟩), .int .i64 (x : Nat), .int .u64 (y : Nat)] (wi.setCell ⟨go, x, none⟩ (.int .i64 (i2 : Nat))) (fun e w' => e = .returned (.int .i64 0) ∧ ApW wa pa K2 M go (marksA A' p i (j + 1)) (fillZ O p (j + 1) (i2 : Int)) R (.slice aP L cP) (.slice aS L cS) (.slice aM L cM) w') from by
                  have h9 := hs.out.setO x (i2 : Int)
                  rw [hx, fillZ_succ, ← hx] at h9
                  have := a3_write h9 (HOK.out j (by omega)) x (y : Int) (WalkArith.wf_u64 (by omega)) hxN
                  rw [hx, hy, marksA_succ, ← hx, ← hy] at this
                  exact this)
                clear hs hx hy hm1
                go_wp2_with fail
                refine HRD.out.mono ?_
                rintro e w3 ⟨rfl, rfl⟩
                go_wp2_with fail
                refine HWR.out.mono ?_
                rintro e w4 ⟨rfl, hs4⟩
                have HN := Lib.hid hs4
                clear hs4
                go_wp2
                go_roundw
                case rel => first | exact ⟨j + 1, by go_num, by omega, HN⟩ | ((repeat apply Exists.intro); exact ⟨⟨j + 1, by go_num, by omega, HN⟩, rfl⟩)
                case measure => simp [intOf]; omega
              · obtain rfl : j = n := by omega
                have hjn' : ¬ (j : Int) < (j : Int) := by omega
                obtain ⟨l1, l2, l3⟩ := col_len (R := R)
                obtain ⟨P, hP⟩ : ∃ P, P = colP R := ⟨_, rfl⟩
                obtain ⟨S, hS⟩ : ∃ S, S = colS R := ⟨_, rfl⟩
                obtain ⟨Mk, hMk⟩ : ∃ Mk, Mk = colM R := ⟨_, rfl⟩
                have HT : Hid (ApT wa pa K2 M go (marksA A' p i j) (fillZ O p j (i2 : Int)) (.slice aP L cP) (.slice aS L cS) (.slice aM L cM) P S Mk wi) := Lib.hid (show ApT wa pa K2 M go (marksA A' p i j) (fillZ O p j (i2 : Int)) (.slice aP L cP) (.slice aS L cS) (.slice aM L cM) P S Mk wi from by rw [hP, hS, hMk]; exact hs.out)
                have HDN : Hid (∀ vP vS vM wx, ApT wa pa K2 M go (marksA A' p i j) (fillZ O p j (i2 : Int)) vP vS vM (P ++ [(p : Int)]) (S ++ [(j : Int)]) (Mk ++ [(i : Int)]) wx → ApL wa pa M go N i2 vP vS vM wx) := Lib.hid (show ∀ vP vS vM wx, ApT wa pa K2 M go (marksA A' p i j) (fillZ O p j (i2 : Int)) vP vS vM (P ++ [(p : Int)]) (S ++ [(j : Int)]) (Mk ++ [(i : Int)]) wx → ApL wa pa M go N i2 vP vS vM wx from fun vP vS vM wx h => by
                  rw [hP, hS, hMk] at h
                  exact ⟨marksA A' p i j, fillZ O p j (i2 : Int), R ++ [(p, j, i)], by rw [List.length_append, List.length_singleton]; have := HR.out; have := HI2.out; omega, HN2.out, HIN2.out, h.done.mono HK2.out⟩)
                have hPl : L = P.length := by rw [hP, l1]; exact HLE.out
                have hSl : L = S.length := by rw [hS, l2]; exact HLE.out
                have hMl : L = Mk.length := by rw [hMk, l3]; exact HLE.out
                have HO1 : Hid (L + 1 ≤ maxLen) := Lib.hid (show L + 1 ≤ maxLen from by unfold maxLen; omega)
                have HO2 : Hid ((L + 1) * 8 ≤ 140737488355328) := Lib.hid (show (L + 1) * 8 ≤ 140737488355328 from by omega)
                have HPL := Lib.hid hPl
                have HSL := Lib.hid hSl
                have HML := Lib.hid hMl
                have r1 := HT.out.rows.1
                rw [← hPl] at r1
                have HR1 := Lib.hid r1
                clear hs l1 l2 l3 hP hS hMk hPl hSl hMl r1
                go_wp2_with (at_builtin; refine wpList_row (by rfl) (.tmp 206) (.tmp 208) 35 rfl 3 i0 (.int .i64 0) 1 8 Try.underlying35 HIN.out HZ0.out HZ1.out HZ2.out rfl (by decide) (.slice aP L cP) L (intC P) rfl (HR1.out.src _) (.slice (some ⟨wi.heap.size, 0, none⟩) 1 1) 1 [.int .i64 (p : Nat)] rfl (new_one _ _ _) (one_of rfl) HO1.out HO2.out ?_)
                intro vP2 w5 hr5 hg5 hv5
                have HT5 := Lib.hid (HT.out.push0 (x := (p : Int)) (by rw [← HPL.out]; exact hr5) hg5 hv5)
                have r2 := HT5.out.rows.2.1
                rw [← HSL.out] at r2
                have HR2 := Lib.hid r2
                clear hr5 hg5 hv5 r2
                go_wp2_with (at_builtin; refine wpList_row (by rfl) (.tmp 210) (.tmp 212) 35 rfl 3 i0 (.int .i64 0) 1 8 Try.underlying35 HIN.out HZ0.out HZ1.out HZ2.out rfl (by decide) (.slice aS L cS) L (intC S) rfl (HR2.out.src _) (.slice (some ⟨w5.heap.size, 0, none⟩) 1 1) 1 [.int .i64 (j : Nat)] rfl (new_one _ _ _) (one_of rfl) HO1.out HO2.out ?_)
                intro vS2 w6 hr6 hg6 hv6
                have HT6 := Lib.hid (HT5.out.push1 (x := (j : Int)) (by rw [← HSL.out]; exact hr6) hg6 hv6)
                have r3 := HT6.out.rows.2.2
                rw [← HML.out] at r3
                have HR3 := Lib.hid r3
                clear hr6 hg6 hv6 r3
                go_wp2_with (at_builtin; refine wpList_row (by rfl) (.tmp 214) (.tmp 216) 35 rfl 3 i0 (.int .i64 0) 1 8 Try.underlying35 HIN.out HZ0.out HZ1.out HZ2.out rfl (by decide) (.slice aM L cM) L (intC Mk) rfl (HR3.out.src _) (.slice (some ⟨w6.heap.size, 0, none⟩) 1 1) 1 [.int .i64 (i : Nat)] rfl (new_one _ _ _) (one_of rfl) HO1.out HO2.out ?_)
                intro vM2 w7 hr7 hg7 hv7
                have HE := Lib.hid (HDN.out _ _ _ _ (HT6.out.push2 (x := (i : Int)) (by rw [← HML.out]; exact hr7) hg7 hv7))
                have hle : i2 ≤ len2 := by have := HI2.out; omega
                have hme : len2 - i2 < len2 - i := by have := HI2.out; omega
                clear hr7 hg7 hv7
                go_wp2
                go_roundw
                case rel => first | exact ⟨i2, by first | rfl | go_num, hle, HE⟩ | ((repeat apply Exists.intro); exact ⟨⟨i2, by first | rfl | go_num, hle, HE⟩, rfl⟩)
                case measure => simp [intOf]; omega
    · obtain rfl : i = len2 := by omega
      have hi1 : ¬ (i : Int) < (i : Int) := by omega
      obtain ⟨B, hAr⟩ := hAW.ar
      have HCK : Hid (Calls Try.prog 19 #[.pointer (some ⟨pa, 0, none⟩)] wo (RowDone wo [])) := Lib.hid (show Calls Try.prog 19 #[.pointer (some ⟨pa, 0, none⟩)] wo (RowDone wo []) from by
        have := check_any wo hAr hAI.fine.ok (show 72 * i ≤ 1048576 by omega)
        rw [hAI.fine.check] at this
        exact this)
      have hbad := hAI.fine.bad0
      have HBD : Hid (∀ wx, Below wo.heap.size wo wx → Calls Try.prog 20 #[.pointer (some ⟨pa, 0, none⟩)] wx fun e w' => e = .returned (.int .i64 0) ∧ wx = w') := Lib.hid (show ∀ wx, Below wo.heap.size wo wx → Calls Try.prog 20 #[.pointer (some ⟨pa, 0, none⟩)] wx fun e w' => e = .returned (.int .i64 0) ∧ wx = w' from fun wx hb => by
        have := bad_any wx (hAr.keep hb)
        rw [hbad] at this
        exact this)
      have HBL := Lib.hid hAW.below
      clear hAI hAW hAN hAr hbad hRl
      go_wp2_with fail
      refine HCK.out.mono ?_
      rintro e w3 ⟨v, rfl, r, _, hb⟩
      obtain ⟨a, c, rfl, _⟩ := r.read
      have HB3 := Lib.hid (HBD.out w3 hb)
      have HF : Hid (Below w.heap.size w w3) := Lib.hid (show Below w.heap.size w w3 from HBA.out.trans ((HBL.out.trans (hb.mono HBL.out.size)).mono HBA.out.size))
      clear r hb
      go_wp2_with fail
      refine HB3.out.mono ?_
      rintro e w4 ⟨rfl, rfl⟩
      go_wp2
      go_ret
      exact ⟨rfl, HF.out⟩
theorem arenaApart.walk (a0 : Int) (a1 : Int) (a2 : Option Addr) (len2 cap2 : Nat) (z2 : Nat → Int) (w : World) (w0 : (Lit.int .i64 a0).wf = true) (w1 : (Lit.int .i64 a1).wf = true) (h2 : Ints .i64 w a2 len2 cap2 z2) :
    Calls Try.prog 7 #[.int .i64 a0, .int .i64 a1, .slice a2 len2 cap2] w fun e w' => e = .returned (.bool true) ∧ Below w.heap.size w w' := by
  by_cases h : 1 ≤ a0 ∧ a0 ≤ 30 ∧ len2 ≤ 80
  · obtain ⟨N, rfl⟩ : ∃ n : Nat, a0 = n := ⟨a0.toNat, by omega⟩
    exact arenaApart.into N a1 a2 len2 cap2 z2 w (by omega) (by omega) h.2.2 h2
  · exact arenaApart.out a0 a1 a2 len2 cap2 w h (Nat.le_trans h2.le h2.max)
end Go.Proofs.Ytfiddodlpppdhaa

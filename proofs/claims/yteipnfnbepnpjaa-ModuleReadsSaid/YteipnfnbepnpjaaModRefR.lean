/- the reference's Right, of any module, answers as module's does. -/
import Derived.Test.YteipnfnbepnpjaaModModel
import Derived.Test.YteipnfnbepnpjaaCodeWr1
namespace Go.Proofs.Yteipnfnbepnpjaa
open Go.RowKit Go.Maps
set_option linter.unusedVariables false
section
variable {m : ModX} {a1 a2 a3 : Option Addr}
theorem sized_noB (h : m.base = false) : m.sizedB = false := by unfold ModX.sizedB; rw [h]; rfl
theorem sized_noC {k : Nat} (hk : k < m.n1) (h : m.cOk k = false) : m.sizedB = false := by unfold ModX.sizedB; rw [allN_no hk h]; simp
theorem sized_noF {k : Nat} (hk : k < m.n2) (h : m.fOk k = false) : m.sizedB = false := by unfold ModX.sizedB; rw [allN_no hk h]; simp
theorem sized_noK {k : Nat} (hk : k < m.n3) (h : m.kOk k = false) : m.sizedB = false := by unfold ModX.sizedB; rw [allN_no hk h]; simp
theorem sized_yes (h0 : m.base = true) (h1 : allN m.cOk m.n1 = true) (h2 : allN m.fOk m.n2 = true) (h3 : allN m.kOk m.n3 = true) : m.sizedB = true := by unfold ModX.sizedB; rw [h0, h1, h2, h3]; rfl
/-- how the reference's Right ends -/
def RrDone (w : World) (E : Nat) (en : Ending) (w' : World) : Prop := en = .returned (.int .i64 (E : Nat)) ∧ Below w.heap.size w w'
set_option maxRecDepth 100000 in
set_option maxHeartbeats 16000000 in
theorem refRight_any (w : World) (f : ModS w m a1 a2 a3) :
    Calls Try.prog 26 #[modXV m a1 a2 a3] w (RrDone w m.rightE) := by
  have HM := Lib.hid (MxAt.made f 47)
  obtain ⟨gm, hgm⟩ : ∃ gm, gm = w.heap.size := ⟨_, rfl⟩
  obtain ⟨w1, hw1⟩ : ∃ w1, w1 = w.alloc (.cells #[.int .i64 m.G, .slice a1 m.n1 m.c1, .slice a2 m.n2 m.c2, .slice a3 m.n3 m.c3] 47) := ⟨_, rfl⟩
  have HW1 := Lib.hid hw1
  have HGM := Lib.hid hgm
  rw [← hgm, ← hw1] at HM
  have hx1 := f.c.max
  have hx2 := f.f.max
  have hx3 := f.k.max
  have hl1 := f.c.le
  have hl2 := f.f.le
  have hl3 := f.k.le
  have HIN := Lib.hid (fun (n mm : Int) (w : World) => in_any n mm w)
  obtain ⟨E, hE⟩ : ∃ E, E = m.rightE := ⟨_, rfl⟩
  have HEE := Lib.hid hE
  rw [← hE]
  obtain ⟨gB, hgB⟩ : ∃ gB, gB = (decide (0 ≤ m.G) && decide (m.G ≤ 255)) := ⟨_, rfl⟩
  have HING : Hid (∀ W, Calls Try.prog 38 #[.int .i64 m.G, .int .i64 255] W fun e w' => e = .returned (.bool gB) ∧ W = w') := (show ∀ W, _ from fun W => by rw [hgB]; exact in_any _ _ W)
  clear f hE hgm hw1
  obtain ⟨m0', m1', m2', m3'⟩ := And.intro HM.out.m0 (And.intro HM.out.m1 (And.intro HM.out.m2 HM.out.m3))
  unfold modXV
  by_cases hb : m.base = true
  · obtain ⟨b1, b2, b3, b4, b5⟩ := base_true hb
    have hgt : gB = true := by rw [hgB, decide_eq_true b1, decide_eq_true b2]; rfl
    subst hgt
    have HBB := Lib.hid hb
    clear hb hgB
    go_enter Try.func26, Try.ntmps26
    go_wp2_with fail
    rw [← HW1.out, ← HGM.out]
    refine (HING.out _).mono ?_
    rintro en w2 ⟨rfl, rfl⟩
    go_wp2_with fail
    go_loopw [3] (fun i wr => ∃ k : Nat, i = .int .i64 (k : Nat) ∧ k ≤ m.n1 ∧ Hid (allN m.cOk k = true ∧ MxAt w gm m a1 a2 a3 wr)) (fun i _ => m.n1 - (intOf i).toNat)
    case atStart => exact ⟨0, rfl, Nat.zero_le _, rfl, HM.out⟩
    case round =>
      obtain ⟨k, rfl, hk, hs⟩ := hrel
      obtain ⟨wo, rfl⟩ : ∃ wo : World, wo = wr := ⟨_, rfl⟩
      obtain ⟨fs, q0, q1, q2, q3, _⟩ := hs.out.2
      have HO := Lib.hid hs.out.1
      have HX := Lib.hid hs.out.2
      by_cases hlt : k < m.n1
      · obtain ⟨g, off, rfl, hgl, e0, e1, e2⟩ := rows3 fs.c hlt
        replace e2 : wo.cell? ⟨g, off + k * 3 + 2, none⟩ = some (.string (m.s k)) := e2
        have hi0 : (0 : Int) ≤ (k : Int) := by omega
        have hi1 : (k : Int) < (m.n1 : Int) := by omega
        clear e0 e1
        rcases (by omega : (255 : Int) < ((m.s k).size : Int) ∨ ¬ (255 : Int) < ((m.s k).size : Int)) with hz | hz
        · have HV : Hid (E = 9) := (show E = 9 by rw [HEE.out, right_9 (sized_noC hlt (show decide _ = false by rw [decide_eq_false_iff_not]; omega))])
          clear hs
          go_wp2
          go_ret
          exact ⟨ret_int2 (by rw [HV.out]; rfl), HX.out.bel⟩
        · have HS2 : Hid (allN m.cOk (k + 1) = true) := allN_step HO.out (show decide _ = true by rw [decide_eq_true_iff]; omega)
          clear hs
          go_wp2
          go_roundw
          case rel => first | exact ⟨k + 1, by go_num, by omega, HS2.out, HX.out⟩ | ((repeat apply Exists.intro); exact ⟨⟨k + 1, by go_num, by omega, HS2.out, HX.out⟩, rfl⟩)
          case measure => simp [intOf]; omega
      · obtain rfl : k = m.n1 := by omega
        clear hlt hs
        go_wp2_with fail
        go_loopw [4] (fun i wr => ∃ k : Nat, i = .int .i64 (k : Nat) ∧ k ≤ m.n2 ∧ Hid (allN m.fOk k = true ∧ MxAt w gm m a1 a2 a3 wr)) (fun i _ => m.n2 - (intOf i).toNat)
        case atStart => exact ⟨0, rfl, Nat.zero_le _, rfl, HX.out⟩
        case round =>
          obtain ⟨k, rfl, hk2, hs⟩ := hrel
          obtain ⟨wp, rfl⟩ : ∃ wp : World, wp = wr := ⟨_, rfl⟩
          obtain ⟨fs2, r0, r1, r2, r3, _⟩ := hs.out.2
          have HO2 := Lib.hid hs.out.1
          have HX := Lib.hid hs.out.2
          by_cases hlt : k < m.n2
          · obtain ⟨g, off, rfl, hgl, e0, e1, e2⟩ := rows3 fs2.f hlt
            replace e0 : wp.cell? ⟨g, off + k * 3, none⟩ = some (.int .i64 (m.p k)) := e0
            replace e1 : wp.cell? ⟨g, off + k * 3 + 1, none⟩ = some (.int .i64 (m.lo k)) := e1
            replace e2 : wp.cell? ⟨g, off + k * 3 + 2, none⟩ = some (.slice (m.ca k) (m.cl k) (m.cc k)) := e2
            have hi0 : (0 : Int) ≤ (k : Int) := by omega
            have hi1 : (k : Int) < (m.n2 : Int) := by omega
            have hgm : gm < wp.heap.size := World.block_lt_of_cell? wp _ r0
            have HX2 := Lib.hid (hs.out.2.below ((Below.refl _ _).alloc (Nat.le_refl _) (.cells #[.int .i64 (m.p k), .int .i64 (m.lo k), .slice (m.ca k) (m.cl k) (m.cc k)] 61)))
            have HFK : Hid (m.fOk k = (decide (m.cl k ≤ 4000) && (decide (0 ≤ m.p k) && decide (m.p k ≤ 20)) && (decide (m.p k ≤ m.lo k) && decide (m.lo k ≤ 50)))) := rfl
            obtain ⟨pB, hpB⟩ : ∃ pB, pB = (decide (0 ≤ m.p k) && decide (m.p k ≤ 20)) := ⟨_, rfl⟩
            rw [← hpB] at HFK
            have HINP : Hid (∀ W, Calls Try.prog 38 #[.int .i64 (m.p k), .int .i64 20] W fun e w' => e = .returned (.bool pB) ∧ W = w') := (show ∀ W, _ from fun W => by rw [hpB]; exact in_any _ _ W)
            have HB9 : Hid (m.fOk k = false → E = 9) := (show _ → _ from fun h => by rw [HEE.out, right_9 (sized_noF hlt h)])
            clear hs hpB
            rcases (by omega : (4000 : Int) < ((m.cl k : Nat) : Int) ∨ ¬ (4000 : Int) < ((m.cl k : Nat) : Int)) with hz | hz
            · have HV : Hid (E = 9) := (show E = 9 from HB9.out (by rw [HFK.out, decide_eq_false (by omega)]; rfl))
              go_wp2
              go_ret
              exact ⟨ret_int2 (by rw [HV.out]; rfl), HX2.out.bel⟩
            · cases pB with
              | false =>
                have HV : Hid (E = 9) := (show E = 9 from HB9.out (by rw [HFK.out, Bool.and_false]; rfl))
                go_wp2_with fail
                refine (HINP.out _).mono ?_
                rintro en w5 ⟨rfl, rfl⟩
                go_wp2
                go_ret
                exact ⟨ret_int2 (by rw [HV.out]; rfl), HX2.out.bel⟩
              | true =>
                rcases (by omega : m.lo k < m.p k ∨ ¬ m.lo k < m.p k) with hq | hq
                · have HV : Hid (E = 9) := (show E = 9 from HB9.out (by rw [HFK.out, decide_eq_false (show ¬ m.p k ≤ m.lo k by omega)]; simp))
                  go_wp2_with fail
                  refine (HINP.out _).mono ?_
                  rintro en w5 ⟨rfl, rfl⟩
                  go_wp2
                  go_ret
                  exact ⟨ret_int2 (by rw [HV.out]; rfl), HX2.out.bel⟩
                · rcases (by omega : (50 : Int) < m.lo k ∨ ¬ (50 : Int) < m.lo k) with hu | hu
                  · have HV : Hid (E = 9) := (show E = 9 from HB9.out (by rw [HFK.out, decide_eq_false (show ¬ m.lo k ≤ 50 by omega)]; simp))
                    go_wp2_with fail
                    refine (HINP.out _).mono ?_
                    rintro en w5 ⟨rfl, rfl⟩
                    go_wp2
                    go_ret
                    exact ⟨ret_int2 (by rw [HV.out]; rfl), HX2.out.bel⟩
                  · have HS2 : Hid (allN m.fOk (k + 1) = true) := allN_step HO2.out (by rw [HFK.out, decide_eq_true (show m.cl k ≤ 4000 by omega), decide_eq_true (show m.p k ≤ m.lo k by omega), decide_eq_true (show m.lo k ≤ 50 by omega)]; rfl)
                    go_wp2_with fail
                    refine (HINP.out _).mono ?_
                    rintro en w5 ⟨rfl, rfl⟩
                    go_wp2
                    go_roundw
                    case rel => first | exact ⟨k + 1, by go_num, by omega, HS2.out, HX2.out⟩ | ((repeat apply Exists.intro); exact ⟨⟨k + 1, by go_num, by omega, HS2.out, HX2.out⟩, rfl⟩)
                    case measure => simp [intOf]; omega
          · obtain rfl : k = m.n2 := by omega
            clear hlt hs
            go_wp2_with fail
            go_loopw [6] (fun i wr => ∃ k : Nat, i = .int .i64 (k : Nat) ∧ k ≤ m.n3 ∧ Hid (allN m.kOk k = true ∧ MxAt w gm m a1 a2 a3 wr)) (fun i _ => m.n3 - (intOf i).toNat)
            case atStart => exact ⟨0, rfl, Nat.zero_le _, rfl, HX.out⟩
            case round =>
              obtain ⟨k, rfl, hk3, hs⟩ := hrel
              obtain ⟨wq, rfl⟩ : ∃ wq : World, wq = wr := ⟨_, rfl⟩
              obtain ⟨fs3, p0, p1, p2, p3, _⟩ := hs.out.2
              have HO3 := Lib.hid hs.out.1
              have HX2 := Lib.hid hs.out.2
              by_cases hlt : k < m.n3
              · obtain ⟨g, off, rfl, hgl, e0, e1⟩ := rows2 fs3.k hlt
                replace e0 : wq.cell? ⟨g, off + k * 2, none⟩ = some (.int .i64 (m.fi k)) := e0
                have hi0 : (0 : Int) ≤ (k : Int) := by omega
                have hi1 : (k : Int) < (m.n3 : Int) := by omega
                clear e1
                obtain ⟨kB, hkB⟩ : ∃ kB, kB = m.kOk k := ⟨_, rfl⟩
                have HINK : Hid (∀ W, Calls Try.prog 38 #[.int .i64 (m.fi k), .int .i64 255] W fun e w' => e = .returned (.bool kB) ∧ W = w') := (show ∀ W, _ from fun W => by rw [hkB]; exact in_any _ _ W)
                have HKB := Lib.hid hkB
                clear hkB hs
                cases kB with
                | false =>
                  have HV : Hid (E = 9) := (show E = 9 by rw [HEE.out, right_9 (sized_noK hlt HKB.out.symm)])
                  go_wp2_with fail
                  refine (HINK.out _).mono ?_
                  rintro en w5 ⟨rfl, rfl⟩
                  go_wp2
                  go_ret
                  exact ⟨ret_int2 (by rw [HV.out]; rfl), HX2.out.bel⟩
                | true =>
                  have HS2 : Hid (allN m.kOk (k + 1) = true) := allN_step HO3.out HKB.out.symm
                  go_wp2_with fail
                  refine (HINK.out _).mono ?_
                  rintro en w5 ⟨rfl, rfl⟩
                  go_wp2
                  go_roundw
                  case rel => first | exact ⟨k + 1, by go_num, by omega, HS2.out, HX2.out⟩ | ((repeat apply Exists.intro); exact ⟨⟨k + 1, by go_num, by omega, HS2.out, HX2.out⟩, rfl⟩)
                  case measure => simp [intOf]; omega
              · obtain rfl : k = m.n3 := by omega
                have HSB : Hid (m.sizedB = true) := (show m.sizedB = true from sized_yes HBB.out HO.out HO2.out HO3.out)
                clear hlt hs
                by_cases h20 : m.n2 = 0
                · have HV : Hid (E = 12) := (show E = 12 by rw [HEE.out, right_12 HSB.out h20])
                  have hz20 : (((m.n2 : Nat) : Int) == 0) = true := by rw [beq_iff_eq]; omega
                  clear h20
                  go_wp2
                  go_ret
                  exact ⟨ret_int2 (by rw [HV.out]; rfl), HX2.out.bel⟩
                · have hz2 : (((m.n2 : Nat) : Int) == 0) = false := by rw [beq_eq_false_iff_ne]; omega
                  have H20 := Lib.hid h20
                  clear h20
                  go_wp2_with fail
                  go_loopw [7] (fun i wr => ∃ k : Nat, i = .int .i64 (k : Nat) ∧ k ≤ m.n3 ∧ Hid (allN m.eOk k = true ∧ MxAt w gm m a1 a2 a3 wr)) (fun i _ => m.n3 - (intOf i).toNat)
                  case atStart => exact ⟨0, rfl, Nat.zero_le _, rfl, HX2.out⟩
                  case round =>
                    obtain ⟨k, rfl, hk4, hs⟩ := hrel
                    obtain ⟨wu, rfl⟩ : ∃ wu : World, wu = wr := ⟨_, rfl⟩
                    obtain ⟨fs4, n0, n1, n2, n3, _⟩ := hs.out.2
                    have HO4 := Lib.hid hs.out.1
                    have HX3 := Lib.hid hs.out.2
                    by_cases hlt : k < m.n3
                    · obtain ⟨g, off, rfl, hgl, e0, e1⟩ := rows2 fs4.k hlt
                      replace e1 : wu.cell? ⟨g, off + k * 2 + 1, none⟩ = some (.int .i64 (m.en k)) := e1
                      have hi0 : (0 : Int) ≤ (k : Int) := by omega
                      have hi1 : (k : Int) < (m.n3 : Int) := by omega
                      have HEK : Hid (m.eOk k = (decide (m.en k = -1) || ((decide (0 ≤ m.en k) && decide (m.en k ≤ (m.n2 : Int) - 1)) && decide (m.p (m.en k).toNat = 1)))) := rfl
                      obtain ⟨ee, hee⟩ : ∃ ee, ee = m.en k := ⟨_, rfl⟩
                      rw [← hee] at HEK e1
                      have HB12 : Hid (m.eOk k = false → E = 12) := (show _ → _ from fun h => by rw [HEE.out, right_12b HSB.out H20.out (allN_no hlt h)])
                      have HFF := Lib.hid fs4.f
                      clear hs hee e0 fs4
                      by_cases h1 : ee = -1
                      · subst h1
                        have HS2 : Hid (allN m.eOk (k + 1) = true) := allN_step HO4.out (by rw [HEK.out]; rfl)
                        go_wp2
                        go_roundw
                        case rel => first | exact ⟨k + 1, by go_num, by omega, HS2.out, HX3.out⟩ | ((repeat apply Exists.intro); exact ⟨⟨k + 1, by go_num, by omega, HS2.out, HX3.out⟩, rfl⟩)
                        case measure => simp [intOf]; omega
                      · have hb1 : (ee != -1) = true := by rw [bne_iff_ne]; exact h1
                        have hb1' : (ee == -1) = false := by rw [beq_eq_false_iff_ne]; exact h1
                        rcases (by omega : ee < 0 ∨ (0 ≤ ee ∧ (m.n2 : Int) ≤ ee) ∨ (0 ≤ ee ∧ ee < (m.n2 : Int))) with h2 | ⟨h2, h3⟩ | ⟨h2, h3⟩
                        · have HV : Hid (E = 12) := (show E = 12 from HB12.out (by rw [HEK.out, decide_eq_false h1, decide_eq_false (show ¬ 0 ≤ ee by omega)]; rfl))
                          go_wp2
                          go_ret
                          exact ⟨ret_int2 (by rw [HV.out]; rfl), HX3.out.bel⟩
                        · have HV : Hid (E = 12) := (show E = 12 from HB12.out (by rw [HEK.out, decide_eq_false h1, decide_eq_false (show ¬ ee ≤ (m.n2 : Int) - 1 by omega), Bool.and_false]; rfl))
                          have h2' : ¬ ee < 0 := by omega
                          go_wp2
                          go_ret
                          exact ⟨ret_int2 (by rw [HV.out]; rfl), HX3.out.bel⟩
                        · obtain ⟨i, rfl⟩ := Int.eq_ofNat_of_zero_le h2
                          have hil : i < m.n2 := by omega
                          obtain ⟨g2, off2, rfl, hgl2, y0, y1, y2⟩ := rows3 HFF.out hil
                          replace y0 : wu.cell? ⟨g2, off2 + i * 3, none⟩ = some (.int .i64 (m.p i)) := y0
                          have h2' : ¬ ((i : Nat) : Int) < 0 := by omega
                          have h3' : ¬ (m.n2 : Int) ≤ ((i : Nat) : Int) := by omega
                          have HEK2 : Hid (m.eOk k = decide (m.p i = 1)) := (show _ = _ by rw [HEK.out, decide_eq_false h1, decide_eq_true h2, decide_eq_true (show ((i : Nat) : Int) ≤ (m.n2 : Int) - 1 by omega), Int.toNat_natCast]; simp)
                          obtain ⟨pp, hpp⟩ : ∃ pp, pp = m.p i := ⟨_, rfl⟩
                          rw [← hpp] at HEK2 y0
                          clear y1 y2 hpp
                          by_cases h5 : pp = 1
                          · subst h5
                            have HS2 : Hid (allN m.eOk (k + 1) = true) := allN_step HO4.out (by rw [HEK2.out]; rfl)
                            go_wp2
                            go_roundw
                            case rel => first | exact ⟨k + 1, by go_num, by omega, HS2.out, HX3.out⟩ | ((repeat apply Exists.intro); exact ⟨⟨k + 1, by go_num, by omega, HS2.out, HX3.out⟩, rfl⟩)
                            case measure => simp [intOf]; omega
                          · have hb5 : (pp != 1) = true := by rw [bne_iff_ne]; exact h5
                            have hb5' : (pp == 1) = false := by rw [beq_eq_false_iff_ne]; exact h5
                            have HV : Hid (E = 12) := (show E = 12 from HB12.out (by rw [HEK2.out, decide_eq_false h5]))
                            go_wp2
                            go_ret
                            exact ⟨ret_int2 (by rw [HV.out]; rfl), HX3.out.bel⟩
                    · obtain rfl : k = m.n3 := by omega
                      clear hlt hs
                      go_wp2_with fail
                      go_loopw [9] (fun i wr => ∃ k : Nat, i = .int .i64 (k : Nat) ∧ k ≤ m.n1 ∧ Hid (allN m.tOk k = true ∧ MxAt w gm m a1 a2 a3 wr)) (fun i _ => m.n1 - (intOf i).toNat)
                      case atStart => exact ⟨0, rfl, Nat.zero_le _, rfl, HX3.out⟩
                      case round =>
                        obtain ⟨k, rfl, hk5, hs⟩ := hrel
                        obtain ⟨wv, rfl⟩ : ∃ wv : World, wv = wr := ⟨_, rfl⟩
                        obtain ⟨fs5, r0, r1, r2, r3, _⟩ := hs.out.2
                        by_cases hlt : k < m.n1
                        · obtain ⟨g, off, rfl, hgl, e0, e1, e2⟩ := rows3 fs5.c hlt
                          replace e0 : wv.cell? ⟨g, off + k * 3, none⟩ = some (.bool (m.b k)) := e0
                          replace e1 : wv.cell? ⟨g, off + k * 3 + 1, none⟩ = some (.int .i64 (m.z k)) := e1
                          replace e2 : wv.cell? ⟨g, off + k * 3 + 2, none⟩ = some (.string (m.s k)) := e2
                          have hi0 : (0 : Int) ≤ (k : Int) := by omega
                          have hi1 : (k : Int) < (m.n1 : Int) := by omega
                          have hgm : gm < wv.heap.size := World.block_lt_of_cell? wv _ r0
                          have HX5 := Lib.hid (fun (ob : Obj) => hs.out.2.below ((Below.refl _ _).alloc (Nat.le_refl _) ob))
                          have HO5 := Lib.hid hs.out.1
                          have HTO : Hid (m.tOk k = if m.b k = true then decide (m.z k = 0) else decide ((m.s k).size = 0)) := rfl
                          cases hbk : m.b k with
                          | true =>
                            rw [hbk] at e0 HTO
                            rw [if_pos rfl] at HTO
                            by_cases hz : m.z k = 0
                            · have HS2 : Hid (allN m.tOk (k + 1) = true) := allN_step HO5.out (by rw [HTO.out]; exact decide_eq_true hz)
                              rw [hz] at e1
                              clear hs hbk hz
                              go_wp2
                              go_roundw
                              case rel => first | exact ⟨k + 1, by go_num, by omega, HS2.out, HX5.out _⟩ | ((repeat apply Exists.intro); exact ⟨⟨k + 1, by go_num, by omega, HS2.out, HX5.out _⟩, rfl⟩)
                              case measure => simp [intOf]; omega
                            · have HV : Hid (E = 1) := (show E = 1 by rw [HEE.out, right_1 HSB.out H20.out HO4.out (allN_no hlt (by rw [HTO.out]; exact decide_eq_false hz))])
                              have hbn : (m.z k != 0) = true := by rw [bne_iff_ne]; exact hz
                              clear hs hbk hz
                              go_wp2
                              go_ret
                              exact ⟨ret_int2 (by rw [HV.out]; rfl), (HX5.out _).bel⟩
                          | false =>
                            rw [hbk] at e0 HTO
                            rw [if_neg (by simp)] at HTO
                            by_cases hz : (m.s k).size = 0
                            · have HS2 : Hid (allN m.tOk (k + 1) = true) := allN_step HO5.out (by rw [HTO.out]; exact decide_eq_true hz)
                              have hse : m.s k = ByteArray.empty := ByteArray.ext (Array.eq_empty_of_size_eq_zero hz)
                              rw [hse] at e2
                              clear hs hbk hz hse
                              go_wp2
                              go_roundw
                              case rel => first | exact ⟨k + 1, by go_num, by omega, HS2.out, HX5.out _⟩ | ((repeat apply Exists.intro); exact ⟨⟨k + 1, by go_num, by omega, HS2.out, HX5.out _⟩, rfl⟩)
                              case measure => simp [intOf]; omega
                            · have HV : Hid (E = 1) := (show E = 1 by rw [HEE.out, right_1 HSB.out H20.out HO4.out (allN_no hlt (by rw [HTO.out]; exact decide_eq_false hz))])
                              have hbe : (m.s k).toList.isEmpty = false := by
                                rw [ByteArray.toList_eq]
                                cases hl : (m.s k).data.toList with
                                | nil => exact absurd (by show (m.s k).data.size = 0; rw [← Array.length_toList, hl]; rfl) hz
                                | cons a t => rfl
                              clear hs hbk hz
                              go_wp2
                              go_ret
                              exact ⟨ret_int2 (by rw [HV.out]; rfl), (HX5.out _).bel⟩
                        · obtain rfl : k = m.n1 := by omega
                          have HV : Hid (E = 0) := (show E = 0 by rw [HEE.out, right_0 HSB.out H20.out HO4.out hs.out.1])
                          clear hlt
                          go_wp2
                          go_ret
                          exact ⟨ret_int2 (by rw [HV.out]; rfl), hs.out.2.bel⟩
  · have hb' : m.base = false := by simpa using hb
    have HV : Hid (E = 9) := (show E = 9 by rw [HEE.out, right_9 (sized_noB hb')])
    have HBD := Lib.hid HM.out.bel
    cases gB with
    | false =>
      clear hb hb' hgB
      go_enter Try.func26, Try.ntmps26
      go_wp2_with fail
      rw [← HW1.out, ← HGM.out]
      refine (HING.out _).mono ?_
      rintro en w2 ⟨rfl, rfl⟩
      go_wp2
      go_ret
      exact ⟨ret_int2 (by rw [HV.out]; rfl), HBD.out⟩
    | true =>
      have hcs : (200 : Int) < (m.n1 : Int) ∨ (¬ (200 : Int) < (m.n1 : Int) ∧ (100 : Int) < (m.n2 : Int)) ∨ (¬ (200 : Int) < (m.n1 : Int) ∧ ¬ (100 : Int) < (m.n2 : Int) ∧ (100 : Int) < (m.n3 : Int)) := by
        refine Decidable.byContradiction fun hno => hb ?_
        unfold ModX.base
        rw [← hgB, decide_eq_true (show (m.n1 : Int) ≤ 200 by omega), decide_eq_true (show (m.n2 : Int) ≤ 100 by omega), decide_eq_true (show (m.n3 : Int) ≤ 100 by omega)]
        rfl
      clear hb hb' hgB
      rcases hcs with h1 | ⟨h1, h2⟩ | ⟨h1, h2, h3⟩
      all_goals
        go_enter Try.func26, Try.ntmps26
        go_wp2_with fail
        rw [← HW1.out, ← HGM.out]
        refine (HING.out _).mono ?_
        rintro en w2 ⟨rfl, rfl⟩
        go_wp2
        go_ret
        exact ⟨ret_int2 (by rw [HV.out]; rfl), HBD.out⟩
end
end Go.Proofs.Yteipnfnbepnpjaa

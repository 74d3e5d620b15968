/- The walk of the law LineOrders: it answers true for every input. -/
import Derived.Test.YtkfgpgllpegleaaLineOA
namespace Go.Proofs.Ytkfgpgllpegleaa
open Go.RowKit
set_option linter.unusedVariables false

theorem lineOrders.out (a0 : Int) (a1 : Option Addr) (len1 cap1 : Nat) (w : World) (hd : ¬ (0 ≤ a0 ∧ a0 ≤ 1000 ∧ len1 ≤ 100)) :
    Calls Try.prog 7 #[.int .i64 a0, .slice a1 len1 cap1] w fun e w' => e = .returned (.bool true) ∧ Below w.heap.size w w' := by
  go_enter Try.func7, Try.ntmps7
  go_wp2_with (go_at_call 23; refine (alive6 _).mono ?_; rintro e w' ⟨rfl, hb⟩)
  all_goals
    go_ret
    exact ⟨rfl, by assumption⟩

set_option maxRecDepth 100000 in
set_option maxHeartbeats 4000000 in
theorem lineOrders.into (bud : Nat) (a1 : Option Addr) (len1 cap1 : Nat) (z1 : Nat → Int) (w : World) (hb : bud ≤ 1000) (hl1 : len1 ≤ 100) (w1 : Ints .i64 w a1 len1 cap1 z1) :
    Calls Try.prog 7 #[.int .i64 (bud : Nat), .slice a1 len1 cap1] w fun e w' => e = .returned (.bool true) ∧ Below w.heap.size w w' := by
  have d1 : decide ((bud : Int) < 0) = false := by rw [decide_eq_false_iff_not]; omega
  have d2 : decide (1000 < (bud : Int)) = false := by rw [decide_eq_false_iff_not]; omega
  have d3 : decide (100 < (len1 : Int)) = false := by rw [decide_eq_false_iff_not]; omega
  have W1 := Lib.hid w1
  clear w1
  obtain ⟨i1, hi1, hz10, hz11, hz12⟩ := info_parts lineInfo1
  have I1 := Lib.hid hi1
  have Z10 := Lib.hid hz10
  have Z11 := Lib.hid hz11
  have Z12 := Lib.hid hz12
  clear hi1 hz10 hz11 hz12
  obtain ⟨B, hB⟩ : ∃ B, B = w.heap.size := ⟨_, rfl⟩
  have HB := Lib.hid hB
  clear hB
  go_enter Try.func7, Try.ntmps7
  go_wp2_with fail
  refine (alive6 _).mono ?_
  rintro e wa ⟨rfl, hba⟩
  have HBa := Lib.hid hba
  clear hba
  go_wp2_with fail
  refine (lineNew_in bud _ (by omega)).mono ?_
  rintro e wb hs
  obtain ⟨p, rfl, hs2⟩ := LN.of_new hs
  have HS : Hid (LN B w p bud [] wb) := (show LN B w p bud [] wb by rw [HB.out]; exact hs2.weaken HBa.out HBa.out.size)
  clear hs hs2
  go_wp2_with fail
  go_loopw [7, 8, 9] (fun v g i wr => ∃ (k gg : Nat) (C : List Nat), k ≤ len1 ∧ g = .int .i64 gg ∧ i = .int .i64 k ∧ C.length = k ∧ gg ≤ k ∧ Hid (∀ x ∈ C, x ≤ 31) ∧ Hid (sumN (C.drop gg) ≤ bud) ∧ OA B w p bud C v (rowL gg (C.drop gg)) wr) (fun _ _ i _ => len1 - (intOf i).toNat)
  case atStart => exact ⟨0, 0, [], Nat.zero_le _, rfl, rfl, rfl, Nat.le_refl _, fun _ h => (by cases h), Nat.zero_le _, OA.of_new HS.out⟩
  case round =>
    obtain ⟨k, gg, C, hk, rfl, rfl, hC, hgk, h31, hbd, hoa⟩ := hrel
    have HOA := Lib.hid hoa
    have hrow : RowS wr 1 u7 k (natCells C) := by rw [← hC]; exact hoa.row
    obtain ⟨va, vc, rfl, _⟩ := hrow.read
    have HR := Lib.hid hrow
    have HC := Lib.hid hC
    clear hoa hC hrow
    by_cases hlt : k < len1
    · have hints : Ints .i64 wr a1 len1 cap1 z1 := W1.out.below (by rw [← HB.out]; exact HOA.out.bel)
      obtain ⟨b, off, rfl, hbl, hcell⟩ := hints.cell k hlt
      obtain ⟨c, hc31, hce⟩ := and31 (z1 k)
      have HO1 : Hid (k + 1 ≤ maxLen) := (show k + 1 ≤ maxLen by unfold maxLen; omega)
      have HO2 : Hid ((k + 1) * 8 ≤ 140737488355328) := (show (k + 1) * 8 ≤ 140737488355328 by omega)
      clear hints
      go_wp2_with (at_builtin; refine wpList_row (by rfl) (.tmp 49) (.tmp 51) 28 rfl 3 i1 (.int .i64 0) 1 8 Try.underlying28 I1.out Z10.out Z11.out Z12.out rfl (by decide) (.slice va k vc) k (natCells C) rfl (HR.out.keeps ((Keeps.refl [] _).alloc _) (fun _ _ => List.not_mem_nil)) (.slice (some ⟨wr.heap.size, 0, none⟩) 1 1) 1 [.int .i64 (c : Nat)] rfl (new_one _ _ _) (one_of rfl) HO1.out HO2.out ?_)
      intro v3 w3 hr3 hg3 hv3
      have e3 : wr.heap.size + 1 = (wr.alloc (.cells #[.int .i64 (c : Nat)] 3)).heap.size := (size_alloc _ _).symm
      rw [e3] at hv3
      have hoa3 := HOA.out.push (by rw [HC.out]; exact hr3) hg3 hv3
      obtain ⟨va3, vc3, rfl, _⟩ := hr3.read
      obtain ⟨C2, hC2⟩ : ∃ C2, C2 = C ++ [c] := ⟨_, rfl⟩
      have hd2 : C2.drop gg = C.drop gg ++ [c] := by rw [hC2, List.drop_append_of_le_length (by have := HC.out; omega)]
      have HD2 := Lib.hid hd2
      have HC2 : Hid (C2.length = k + 1) := (show C2.length = k + 1 by rw [hC2]; simp [HC.out])
      have H312 : Hid (∀ x ∈ C2, x ≤ 31) := (show ∀ x ∈ C2, x ≤ 31 by
        intro x hx
        rw [hC2, List.mem_append] at hx
        rcases hx with hx | hx
        · exact h31.out x hx
        · cases List.mem_singleton.1 hx; exact hc31)
      rw [← hC2] at hoa3
      have HOA3 := Lib.hid hoa3
      clear hr3 hg3 hv3 e3 hoa3 hd2 hC2 HR HOA hce hcell
      go_wp2_with fail
      refine (addOA (k : Int) c HOA3.out (by rw [rowL_len]; have := HC.out; simp; omega) (by omega)).mono ?_
      rintro e w4 ⟨oa, oc, rfl, hout, hoa4⟩
      have hsn : rowL gg (C.drop gg) ++ [((k : Int), c)] = rowL gg (C2.drop gg) := by
        rw [HD2.out, ← rowL_snoc]
        have := HC.out
        rw [show gg + (C.drop gg).length = k by simp; omega]
      rw [hsn] at hout hoa4
      rw [hsn]
      obtain ⟨G, g1, g2, g3, g4, g5, g6⟩ := goes_rowL bud (C2.drop gg) gg
      rw [g4] at hoa4
      rw [g2] at hout
      rw [g2]
      rw [List.drop_drop] at g6 hoa4
      have HG1 : Hid (gg + G ≤ k + 1) := (show gg + G ≤ k + 1 by have := HC2.out; simp at g1; omega)
      have HG5 : Hid (∀ j, j < G → bud < sumN (C2.drop (gg + j))) := (show ∀ j, j < G → bud < sumN (C2.drop (gg + j)) from fun j hj => by have := g5 j hj; rwa [List.drop_drop] at this)
      have HG6 := Lib.hid g6
      have HG3 := Lib.hid g3
      have HOUT := Lib.hid hout
      have HOA4 := Lib.hid hoa4
      clear g1 g2 g3 g4 g5 g6 hout hoa4 hsn
      have hg1 := HG1.out
      obtain ⟨b3, off3, rfl, HCC⟩ : ∃ b3 off3, va3 = some ⟨b3, off3, none⟩ ∧ Hid (∀ j x t, C2[j]? = some x → (w4.drewN t).cell? ⟨b3, off3 + j, none⟩ = some (.int .i64 (x : Nat))) := by
        have hro : RowS w4 1 (.slice va3 (k + 1) vc3) (k + 1) (natCells C2) := by
          have h := HOA4.out.row
          rwa [HC2.out] at h
        obtain ⟨a', c', e', -, -, -, hrd⟩ := hro.read
        cases e'
        obtain ⟨x0, hx0⟩ : ∃ x0, C2[0]? = some x0 := ⟨_, List.getElem?_eq_getElem (by have := HC2.out; omega)⟩
        obtain ⟨b3, off3, rfl, -, -⟩ := hrd 0 _ (natCells_get hx0)
        refine ⟨b3, off3, rfl, fun j x t hx => ?_⟩
        obtain ⟨b', off', e', -, h⟩ := hrd j _ (natCells_get hx)
        cases e'
        exact h
      have HSM : Hid (∀ j, sumN (C2.drop j) ≤ 4000) := (show ∀ j, sumN (C2.drop j) ≤ 4000 from fun j => by
        have h1 := sumN_le (D := C2.drop j) (m := 31) (fun x hx => H312.out x (List.mem_of_mem_drop hx))
        have h2 := HC2.out
        have h3 : (C2.drop j).length ≤ 101 := by simp; omega
        have h4 : (C2.drop j).length * 31 ≤ 101 * 31 := Nat.mul_le_mul_right _ h3
        omega)
      go_wp2_with fail
      go_loopw [8, 12] (fun g jv wr => ∃ (jj t : Nat), jj ≤ G ∧ g = .int .i64 (gg + jj : Nat) ∧ jv = .int .i64 jj ∧ Hid (wr = w4.drewN t)) (fun _ jv _ => G - (intOf jv).toNat)
      case atStart => exact ⟨0, 0, Nat.zero_le _, rfl, rfl, rfl⟩
      case round =>
        obtain ⟨jj, t, hjj, rfl, rfl, hw⟩ := hrel
        obtain ⟨gj, hgj⟩ : ∃ gj, gj = gg + jj := ⟨_, rfl⟩
        have HGJ := Lib.hid hgj
        have hgjk : gj ≤ k + 1 := by omega
        rw [← hgj]
        by_cases hlj : jj < G
        · clear hgj
          go_wp2_with fail
          go_loopw [13, 14] (fun acc mv wr => ∃ (mm aa t : Nat), gj ≤ mm ∧ mm ≤ k + 1 ∧ acc = .int .i64 aa ∧ mv = .int .i64 mm ∧ Hid (aa + sumN (C2.drop mm) = sumN (C2.drop gj)) ∧ aa ≤ 4000 ∧ Hid (wr = w4.drewN t)) (fun _ mv _ => k + 1 - (intOf mv).toNat)
          case atStart => exact ⟨gj, 0, t, Nat.le_refl _, hgjk, rfl, rfl, Nat.zero_add _, Nat.zero_le _, hw⟩
          case round =>
            obtain ⟨mm, aa, t2, hm1, hm2, rfl, rfl, haa, ha4, hw2⟩ := hrel
            by_cases hmk : mm < k + 1
            · obtain ⟨x, hx⟩ : ∃ x, C2[mm]? = some x := ⟨_, List.getElem?_eq_getElem (by have := HC2.out; omega)⟩
              have hcx : wr.cell? ⟨b3, off3 + mm, none⟩ = some (.int .i64 (x : Nat)) := by rw [hw2.out]; exact HCC.out mm x t2 hx
              have hsd := sumN_drop hx
              have HAA : Hid (aa + x + sumN (C2.drop (mm + 1)) = sumN (C2.drop gj)) := (show aa + x + sumN (C2.drop (mm + 1)) = sumN (C2.drop gj) by have := haa.out; omega)
              have hax : aa + x ≤ 4000 := by have := HAA.out; have := HSM.out gj; omega
              clear hsd hx
              go_wp2_with fail
              go_roundw
              case rel => first | exact ⟨mm + 1, aa + x, t2, by omega, by omega, by go_num, by go_num, HAA, hax, hw2⟩ | ((repeat apply Exists.intro); exact ⟨⟨mm + 1, aa + x, t2, by omega, by omega, by go_num, by go_num, HAA, hax, hw2⟩, rfl⟩)
              case measure => simp [intOf]; omega
            · obtain rfl : mm = k + 1 := by omega
              have hab : bud < aa := by
                have h1 := haa.out
                have h2 := HG5.out jj hlj
                rw [← HGJ.out] at h2
                have h3 := sumN_drop_end C2
                rw [HC2.out] at h3
                omega
              have hab2 : decide (aa ≤ bud) = false := by rw [decide_eq_false_iff_not]; omega
              obtain ⟨a', c', e', -, -, -, hrd⟩ := HOUT.out.read
              cases e'
              obtain ⟨bo, oo, rfl, -, hco⟩ := hrd jj _ (intCells_get (HG3.out jj hlj))
              rw [← HGJ.out] at hco
              have hcx : wr.cell? ⟨bo, oo + jj, none⟩ = some (.int .i64 (gj : Nat)) := by rw [hw2.out]; exact hco
              clear hrd hco
              go_wp2_with fail
              go_roundw
              case rel => first | exact ⟨jj + 1, t2, by omega, by have := HGJ.out; subst this; go_num, by go_num, hw2⟩ | ((repeat apply Exists.intro); exact ⟨⟨jj + 1, t2, by omega, by have := HGJ.out; subst this; go_num, by go_num, hw2⟩, rfl⟩)
              case measure => simp [intOf]; omega
        · obtain rfl : jj = G := by omega
          clear hgj
          go_wp2_with fail
          go_loopw [15, 16] (fun acc mv wr => ∃ (mm aa t : Nat), gj ≤ mm ∧ mm ≤ k + 1 ∧ acc = .int .i64 aa ∧ mv = .int .i64 mm ∧ Hid (aa + sumN (C2.drop mm) = sumN (C2.drop gj)) ∧ aa ≤ 4000 ∧ Hid (wr = w4.drewN t)) (fun _ mv _ => k + 1 - (intOf mv).toNat)
          case atStart => exact ⟨gj, 0, t, Nat.le_refl _, hgjk, rfl, rfl, Nat.zero_add _, Nat.zero_le _, hw⟩
          case round =>
            obtain ⟨mm, aa, t2, hm1, hm2, rfl, rfl, haa, ha4, hw2⟩ := hrel
            by_cases hmk : mm < k + 1
            · obtain ⟨x, hx⟩ : ∃ x, C2[mm]? = some x := ⟨_, List.getElem?_eq_getElem (by have := HC2.out; omega)⟩
              have hcx : wr.cell? ⟨b3, off3 + mm, none⟩ = some (.int .i64 (x : Nat)) := by rw [hw2.out]; exact HCC.out mm x t2 hx
              have hsd := sumN_drop hx
              have HAA : Hid (aa + x + sumN (C2.drop (mm + 1)) = sumN (C2.drop gj)) := (show aa + x + sumN (C2.drop (mm + 1)) = sumN (C2.drop gj) by have := haa.out; omega)
              have hax : aa + x ≤ 4000 := by have := HAA.out; have := HSM.out gj; omega
              clear hsd hx
              go_wp2_with fail
              go_roundw
              case rel => first | exact ⟨mm + 1, aa + x, t2, by omega, by omega, by go_num, by go_num, HAA, hax, hw2⟩ | ((repeat apply Exists.intro); exact ⟨⟨mm + 1, aa + x, t2, by omega, by omega, by go_num, by go_num, HAA, hax, hw2⟩, rfl⟩)
              case measure => simp [intOf]; omega
            · obtain rfl : mm = k + 1 := by omega
              have HAE : Hid (sumL (rowL (gg + jj) (C2.drop (gg + jj))) = aa) := (show sumL (rowL (gg + jj) (C2.drop (gg + jj))) = aa by
                have h1 := haa.out
                have h3 := sumN_drop_end C2
                rw [HC2.out] at h3
                rw [rowL_sum, ← HGJ.out]
                omega)
              have hab2 : decide (bud < aa) = false := by
                rw [decide_eq_false_iff_not]
                have h1 := HAE.out
                have h2 := HG6.out
                rw [rowL_sum] at h1
                omega
              have HOW : Hid (OA B w p bud C2 (.slice (some ⟨b3, off3, none⟩) (k + 1) vc3) (rowL (gg + jj) (C2.drop (gg + jj))) wr) := (show OA B w p bud C2 _ (rowL (gg + jj) (C2.drop (gg + jj))) wr by rw [hw2.out]; exact HOA4.out.drewN t2)
              go_wp2_with fail
              refine (wordsLN HOW.out.ln).mono ?_
              rintro e w5 ⟨rfl, rfl⟩
              rw [HAE.out]
              go_wp2_with fail
              go_roundw
              case rel => first | exact ⟨k + 1, gg + jj, C2, by omega, by rw [← HGJ.out], by go_num, HC2.out, by omega, H312, HG6, HOW.out⟩ | ((repeat apply Exists.intro); exact ⟨⟨k + 1, gg + jj, C2, by omega, by rw [← HGJ.out], by go_num, HC2.out, by omega, H312, HG6, HOW.out⟩, rfl⟩)
              case measure => simp [intOf]; omega
    · obtain rfl : k = len1 := by omega
      go_wp2_with fail
      refine (flushLN HOA.out.ln).mono ?_
      rintro e w5 ⟨fa, fc, rfl, hfr, hln⟩
      obtain ⟨G, hG⟩ : ∃ G, G = k - gg := ⟨_, rfl⟩
      have hlen : ((rowL gg (C.drop gg)).map (·.1)).length = G := by simp [rowL_len, HC.out, hG]
      rw [hlen] at hfr
      rw [hlen]
      have HFR := Lib.hid hfr
      have HLN := Lib.hid hln
      have hgG : gg + G = k := by omega
      clear hfr hln hlen hG
      go_wp2_with fail
      go_loopw [8, 18] (fun g jv wr => ∃ (jj t : Nat), jj ≤ G ∧ g = .int .i64 (gg + jj : Nat) ∧ jv = .int .i64 jj ∧ Hid (wr = w5.drewN t)) (fun _ jv _ => G - (intOf jv).toNat)
      case atStart => exact ⟨0, 0, Nat.zero_le _, rfl, rfl, rfl⟩
      case round =>
        obtain ⟨jj, t, hjj, rfl, rfl, hw⟩ := hrel
        obtain ⟨gj, hgj⟩ : ∃ gj, gj = gg + jj := ⟨_, rfl⟩
        have HGJ := Lib.hid hgj
        have hgjk : gj ≤ k := by omega
        rw [← hgj]
        by_cases hlj : jj < G
        · clear hgj
          obtain ⟨a', c', e', -, -, -, hrd⟩ := HFR.out.read
          cases e'
          obtain ⟨bo, oo, rfl, -, hco⟩ := hrd jj _ (intCells_get (rowL_ats (C.drop gg) gg jj (by have := HC.out; simp; omega)))
          rw [← HGJ.out] at hco
          have hcx : wr.cell? ⟨bo, oo + jj, none⟩ = some (.int .i64 (gj : Nat)) := by rw [hw.out]; exact hco
          clear hrd hco
          go_wp2_with fail
          go_roundw
          case rel => first | exact ⟨jj + 1, t, by omega, by have := HGJ.out; subst this; go_num, by go_num, hw⟩ | ((repeat apply Exists.intro); exact ⟨⟨jj + 1, t, by omega, by have := HGJ.out; subst this; go_num, by go_num, hw⟩, rfl⟩)
          case measure => simp [intOf]; omega
        · obtain rfl : jj = G := by omega
          obtain rfl : gj = k := by omega
          have HLW : Hid (LN B w p bud [] wr) := (show LN B w p bud [] wr by rw [hw.out]; exact HLN.out.drewN t)
          clear hgj
          go_wp2_with fail
          refine (wordsLN HLW.out).mono ?_
          rintro e w6 ⟨rfl, rfl⟩
          go_wp2
          go_ret
          exact ⟨rfl, by rw [← HB.out]; exact HLW.out.bel⟩

theorem lineOrders.walk (a0 : Int) (a1 : Option Addr) (len1 cap1 : Nat) (z1 : Nat → Int) (w : World) (w0 : (Lit.int .i64 a0).wf = true) (w1 : Ints .i64 w a1 len1 cap1 z1) :
    Calls Try.prog 7 #[.int .i64 a0, .slice a1 len1 cap1] w fun e w' => e = .returned (.bool true) ∧ Below w.heap.size w w' := by
  by_cases h : 0 ≤ a0 ∧ a0 ≤ 1000 ∧ len1 ≤ 100
  · obtain ⟨n, rfl⟩ : ∃ n : Nat, a0 = n := ⟨a0.toNat, by omega⟩
    exact lineOrders.into n a1 len1 cap1 z1 w (by omega) h.2.2 w1
  · exact lineOrders.out a0 a1 len1 cap1 w h
end Go.Proofs.Ytkfgpgllpegleaa

/- the reference's Read computes what it says. -/
import Derived.Test.YteipnfnbepnpjaaCodeAlive
import Derived.RegionTactic
namespace Go.Proofs.Yteipnfnbepnpjaa
open Go.RowKit
set_option linter.unusedVariables false

theorem rRead_none (a : Option Addr) (cap : Nat) (w : World) :
    Calls Try.prog 21 #[.slice a 0 cap] w (ReadDone ([], 0) w) := by
  go_enter Try.func21, Try.ntmps21
  go_wp2
  go_loop [4, 5] (fun v i => i = .int .i64 0 ∧ v = .slice none 0 0) (fun _ _ => 0)
  case atStart => exact ⟨rfl, rfl⟩
  case round =>
    obtain ⟨rfl, rfl⟩ := hrel
    go_wp2
    go_ret2
    exact ⟨.slice none 0 0, rfl, RowS.nil _ _, (fun _ h => by cases h), Below.refl _ _⟩
theorem insOf1 {b : Nat → Nat} {p : Nat} (h : widthN (b p) = 1) : insOf b p = (p, b p, 0, 0) := by
  have h35 : b p ≠ 35 := by intro e; rw [e] at h; revert h; decide
  unfold insOf insA insB
  rw [h, if_pos (by omega), if_neg h35]
theorem insOf2 {b : Nat → Nat} {p : Nat} (h : widthN (b p) = 2) : insOf b p = (p, b p, b (p + 1), 0) := by
  have h35 : b p ≠ 35 := by intro e; rw [e] at h; revert h; decide
  unfold insOf insA insB
  rw [h, if_neg (by omega), if_neg (by omega), if_neg h35]
theorem insOf3c {b : Nat → Nat} {p : Nat} (h : b p = 35) : insOf b p = (p, 35, b (p + 1), b (p + 2)) := by
  have h1 : widthN (b p) = 3 := by rw [h]; decide
  unfold insOf insA insB
  rw [h1, if_neg (by omega), if_neg (by omega), if_pos h, h]
theorem insOf3 {b : Nat → Nat} {p : Nat} (h : widthN (b p) = 3) (h35 : b p ≠ 35) : insOf b p = (p, b p, b (p + 1) + 256 * b (p + 2), 0) := by
  unfold insOf insA insB
  rw [h, if_neg (by omega), if_pos ⟨rfl, h35⟩, if_neg h35]

set_option maxRecDepth 100000 in
set_option maxHeartbeats 4000000 in
theorem rRead_pos (g off len cap : Nat) (b : Nat → Nat) (w : World) (hcap : len ≤ cap) (hmax : len ≤ 4398046511104) (hm : cap ≤ 9223372036854775807) (hpos : 0 < len) (hg : g < w.heap.size) (hc : ∀ i, i < len → b i < 256 ∧ w.cell? ⟨g, off + i, none⟩ = some (.int .u8 (b i : Nat))) :
    Calls Try.prog 21 #[.slice (some ⟨g, off, none⟩) len cap] w (ReadDone (rdAll b len) w) := by
  have HS0 := Lib.hid (RdAt.start w b len)
  generalize rdAll b len = R at HS0 ⊢
  have HC := Lib.hid hc
  have HG := Lib.hid hg
  clear hc hg
  obtain ⟨i0, hi, hz0, hz1, hz2⟩ := info_parts insInfo
  have HI := Lib.hid hi
  have HZ0 := Lib.hid hz0
  have HZ1 := Lib.hid hz1
  have HZ2 := Lib.hid hz2
  clear hi hz0 hz1 hz2
  go_enter Try.func21, Try.ntmps21
  go_wp2
  go_loopw [4, 5] (fun v i wr => ∃ (p : Nat) (acc : List InsT), i = .int .i64 p ∧ p ≤ len ∧ Hid (RdAt w b len R v p acc wr)) (fun _ i _ => len - (intOf i).toNat)
  case atStart => exact ⟨0, [], rfl, Nat.zero_le _, HS0⟩
  case round =>
    obtain ⟨p, acc, rfl, hp, hs⟩ := hrel
    by_cases hlt : p < len
    · have HCW : Hid (∀ i, p + i < len → (b (p + i) : Int) < 256 ∧ wr.cell? ⟨g, off + (p + i), none⟩ = some (.int .u8 (b (p + i) : Nat))) := (show ∀ i, p + i < len → (b (p + i) : Int) < 256 ∧ wr.cell? ⟨g, off + (p + i), none⟩ = some (.int .u8 (b (p + i) : Nat)) from fun i hi =>
        ⟨by have := (HC.out _ hi).1; omega, (hs.out.bel.cell (p := ⟨g, off + (p + i), none⟩) HG.out).trans (HC.out _ hi).2⟩)
      obtain ⟨hb, c0⟩ := HCW.out 0 hlt
      rw [Nat.add_zero] at hb c0
      have hgr : g < wr.heap.size := Nat.lt_of_lt_of_le HG.out hs.out.bel.size
      have hle := widthN_le (b p)
      have HW := Lib.hid (fun w => widthRef_any (b p : Nat) w)
      rw [widthZ_nat] at HW
      by_cases h0 : widthN (b p) = 0
      · have hR : R = ([], 8) := by
          have hl := hs.out.le
          rw [← hs.out.val, show len + 1 - acc.length = (len - acc.length) + 1 by omega]
          exact rdFrom_none hlt h0
        subst hR
        rw [h0] at HW
        clear h0 hle
        go_wp2_with fail
        refine (HW.out _).mono ?_
        rintro e w' ⟨rfl, rfl⟩
        go_wp2
        go_ret2
        exact ⟨.slice none 0 0, rfl, RowS.nil _ _, (fun _ h => by cases h), hs.out.bel.alloc hs.out.bel.size _⟩
      · by_cases h1 : len < p + widthN (b p)
        · have hR : R = ([], 7) := by
            have hl := hs.out.le
            rw [← hs.out.val, show len + 1 - acc.length = (len - acc.length) + 1 by omega]
            exact rdFrom_short hlt h0 h1
          subst hR
          obtain ⟨n, hn⟩ : ∃ n, n = widthN (b p) := ⟨_, rfl⟩
          rw [← hn] at HW h0 h1 hle
          have hz : ((n : Int) == 0) = false := by simpa using h0
          clear hn h0
          go_wp2_with fail
          refine (HW.out _).mono ?_
          rintro e w' ⟨rfl, rfl⟩
          go_wp2
          go_ret2
          exact ⟨.slice none 0 0, rfl, RowS.nil _ _, (fun _ h => by cases h), hs.out.bel.alloc hs.out.bel.size _⟩
        · have HST := Lib.hid (fun (w1 w2 : World) (v2 : Value) (ob : Obj) => hs.out.step (w1 := w1) (w2 := w2) (v2 := v2) (ob := ob) hlt h0 h1)
          have HK := Lib.hid (fun w1 (hb1 : Below wr.heap.size wr w1) => hs.out.keep hb1)
          have HO1 : Hid (acc.length + 1 ≤ maxLen) := (show acc.length + 1 ≤ maxLen by have := hs.out.le; unfold maxLen; omega)
          have HO2 : Hid ((acc.length + 1) * 32 ≤ 140737488355328) := (show (acc.length + 1) * 32 ≤ 140737488355328 by have := hs.out.le; omega)
          rcases (by omega : widthN (b p) = 1 ∨ widthN (b p) = 2 ∨ widthN (b p) = 3) with hn | hn | hn
          · rw [hn] at HW HST h1
            rw [insOf1 hn] at HST
            clear h0 hle hn
            go_wp2_with fail
            refine (HW.out _).mono ?_
            rintro e w' ⟨rfl, rfl⟩
            have HB1 : Hid (Below wr.heap.size wr (wr.alloc (.cells #[.int .i64 (p : Nat), .int .i64 (b p : Nat), .int .i64 0, .int .i64 0] 30))) := (show Below wr.heap.size wr (wr.alloc (.cells #[.int .i64 (p : Nat), .int .i64 (b p : Nat), .int .i64 0, .int .i64 0] 30)) from (Below.refl _ _).alloc (Nat.le_refl _) _)
            have e3 : Hid (wr.heap.size + 1 + 1 = ((wr.alloc (.cells #[.int .i64 (p : Nat), .int .i64 (b p : Nat), .int .i64 0, .int .i64 0] 30)).alloc (.cells #[.int .i64 (p : Nat), .int .i64 (b p : Nat), .int .i64 0, .int .i64 0] 30)).heap.size) := (show wr.heap.size + 1 + 1 = ((wr.alloc (.cells #[.int .i64 (p : Nat), .int .i64 (b p : Nat), .int .i64 0, .int .i64 0] 30)).alloc (.cells #[.int .i64 (p : Nat), .int .i64 (b p : Nat), .int .i64 0, .int .i64 0] 30)).heap.size by rw [size_alloc, size_alloc])
            go_wp2_with (at_builtin; refine wpList_row (by rfl) (.tmp 66) (.tmp 68) 25 rfl 30 i0 (.agg #[.int .i64 0, .int .i64 0, .int .i64 0, .int .i64 0]) 4 32 Try.underlying25 HI.out HZ0.out HZ1.out HZ2.out rfl (by decide) u4 acc.length (cellsI acc) rfl ((HK.out _ HB1.out).keeps ((Keeps.refl [] _).alloc _) (fun _ _ => List.not_mem_nil)) (.slice (some ⟨wr.heap.size + 1, 0, none⟩) 1 1) 1 [.int .i64 (p : Nat), .int .i64 (b p : Nat), .int .i64 0, .int .i64 0] rfl (by rw [← size_alloc]; exact new_four _ _ _ _ _ _) (ints_one _ _ _ _) HO1.out HO2.out ?_)
            intro v2 w2 hr2 hg2 hv2
            rw [e3.out] at hv2
            have HS2 := Lib.hid (HST.out _ w2 v2 _ HB1.out hr2 hg2 hv2)
            clear hr2 hg2 hv2
            go_wp2
            go_roundw
            case rel => first | exact ⟨p + 1, _, by go_num, by omega, HS2⟩ | ((repeat apply Exists.intro); exact ⟨⟨p + 1, _, by go_num, by omega, HS2⟩, rfl⟩)
            case measure => simp [intOf]; omega
          · obtain ⟨hb1, c1⟩ := HCW.out 1 (by omega)
            rw [hn] at HW HST h1
            rw [insOf2 hn] at HST
            clear h0 hle hn
            go_wp2_with fail
            refine (HW.out _).mono ?_
            rintro e w' ⟨rfl, rfl⟩
            have HB1 : Hid (Below wr.heap.size wr (wr.alloc (.cells #[.int .i64 (p : Nat), .int .i64 (b p : Nat), .int .i64 (b (p + 1) : Nat), .int .i64 0] 30))) := (show Below wr.heap.size wr (wr.alloc (.cells #[.int .i64 (p : Nat), .int .i64 (b p : Nat), .int .i64 (b (p + 1) : Nat), .int .i64 0] 30)) from (Below.refl _ _).alloc (Nat.le_refl _) _)
            have e3 : Hid (wr.heap.size + 1 + 1 = ((wr.alloc (.cells #[.int .i64 (p : Nat), .int .i64 (b p : Nat), .int .i64 (b (p + 1) : Nat), .int .i64 0] 30)).alloc (.cells #[.int .i64 (p : Nat), .int .i64 (b p : Nat), .int .i64 (b (p + 1) : Nat), .int .i64 0] 30)).heap.size) := (show wr.heap.size + 1 + 1 = ((wr.alloc (.cells #[.int .i64 (p : Nat), .int .i64 (b p : Nat), .int .i64 (b (p + 1) : Nat), .int .i64 0] 30)).alloc (.cells #[.int .i64 (p : Nat), .int .i64 (b p : Nat), .int .i64 (b (p + 1) : Nat), .int .i64 0] 30)).heap.size by rw [size_alloc, size_alloc])
            go_wp2_with (at_builtin; refine wpList_row (by rfl) (.tmp 66) (.tmp 68) 25 rfl 30 i0 (.agg #[.int .i64 0, .int .i64 0, .int .i64 0, .int .i64 0]) 4 32 Try.underlying25 HI.out HZ0.out HZ1.out HZ2.out rfl (by decide) u4 acc.length (cellsI acc) rfl ((HK.out _ HB1.out).keeps ((Keeps.refl [] _).alloc _) (fun _ _ => List.not_mem_nil)) (.slice (some ⟨wr.heap.size + 1, 0, none⟩) 1 1) 1 [.int .i64 (p : Nat), .int .i64 (b p : Nat), .int .i64 (b (p + 1) : Nat), .int .i64 0] rfl (by rw [← size_alloc]; exact new_four _ _ _ _ _ _) (ints_one _ _ _ _) HO1.out HO2.out ?_)
            intro v2 w2 hr2 hg2 hv2
            rw [e3.out] at hv2
            have HS2 := Lib.hid (HST.out _ w2 v2 _ HB1.out hr2 hg2 hv2)
            clear hr2 hg2 hv2
            go_wp2
            go_roundw
            case rel => first | exact ⟨p + 2, _, by go_num, by omega, HS2⟩ | ((repeat apply Exists.intro); exact ⟨⟨p + 2, _, by go_num, by omega, HS2⟩, rfl⟩)
            case measure => simp [intOf]; omega
          · by_cases h35 : b p = 35
            · obtain ⟨hb1, c1⟩ := HCW.out 1 (by omega)
              obtain ⟨hb2, c2⟩ := HCW.out 2 (by omega)
              rw [hn] at HW HST h1
              rw [insOf3c h35] at HST
              rw [h35] at c0 HW
              clear h0 hle hn h35
              go_wp2_with fail
              refine (HW.out _).mono ?_
              rintro e w' ⟨rfl, rfl⟩
              have HB1 : Hid (Below wr.heap.size wr (wr.alloc (.cells #[.int .i64 (p : Nat), .int .i64 35, .int .i64 (b (p + 1) : Nat), .int .i64 (b (p + 2) : Nat)] 30))) := (show Below wr.heap.size wr (wr.alloc (.cells #[.int .i64 (p : Nat), .int .i64 35, .int .i64 (b (p + 1) : Nat), .int .i64 (b (p + 2) : Nat)] 30)) from (Below.refl _ _).alloc (Nat.le_refl _) _)
              have e3 : Hid (wr.heap.size + 1 + 1 = ((wr.alloc (.cells #[.int .i64 (p : Nat), .int .i64 35, .int .i64 (b (p + 1) : Nat), .int .i64 (b (p + 2) : Nat)] 30)).alloc (.cells #[.int .i64 (p : Nat), .int .i64 35, .int .i64 (b (p + 1) : Nat), .int .i64 (b (p + 2) : Nat)] 30)).heap.size) := (show wr.heap.size + 1 + 1 = ((wr.alloc (.cells #[.int .i64 (p : Nat), .int .i64 35, .int .i64 (b (p + 1) : Nat), .int .i64 (b (p + 2) : Nat)] 30)).alloc (.cells #[.int .i64 (p : Nat), .int .i64 35, .int .i64 (b (p + 1) : Nat), .int .i64 (b (p + 2) : Nat)] 30)).heap.size by rw [size_alloc, size_alloc])
              go_wp2_with (at_builtin; refine wpList_row (by rfl) (.tmp 66) (.tmp 68) 25 rfl 30 i0 (.agg #[.int .i64 0, .int .i64 0, .int .i64 0, .int .i64 0]) 4 32 Try.underlying25 HI.out HZ0.out HZ1.out HZ2.out rfl (by decide) u4 acc.length (cellsI acc) rfl ((HK.out _ HB1.out).keeps ((Keeps.refl [] _).alloc _) (fun _ _ => List.not_mem_nil)) (.slice (some ⟨wr.heap.size + 1, 0, none⟩) 1 1) 1 [.int .i64 (p : Nat), .int .i64 35, .int .i64 (b (p + 1) : Nat), .int .i64 (b (p + 2) : Nat)] rfl (by rw [← size_alloc]; exact new_four _ _ _ _ _ _) (ints_one _ _ _ _) HO1.out HO2.out ?_)
              intro v2 w2 hr2 hg2 hv2
              rw [e3.out] at hv2
              have HS2 := Lib.hid (HST.out _ w2 v2 _ HB1.out hr2 hg2 hv2)
              clear hr2 hg2 hv2
              go_wp2
              go_roundw
              case rel => first | exact ⟨p + 3, _, by go_num, by omega, HS2⟩ | ((repeat apply Exists.intro); exact ⟨⟨p + 3, _, by go_num, by omega, HS2⟩, rfl⟩)
              case measure => simp [intOf]; omega
            · obtain ⟨hb1, c1⟩ := HCW.out 1 (by omega)
              obtain ⟨hb2, c2⟩ := HCW.out 2 (by omega)
              rw [hn] at HW HST h1
              rw [insOf3 hn h35] at HST
              have hne : ((b p : Int) == 35) = false := by simpa using (by omega : ¬ (b p : Int) = 35)
              clear h0 hle hn h35
              go_wp2_with fail
              refine (HW.out _).mono ?_
              rintro e w' ⟨rfl, rfl⟩
              go_wp2_with fail
              go_region
              have ec : ((b (p + 1) + 256 * b (p + 2) : Nat) : Int) = (b (p + 1) : Nat) + 256 * (b (p + 2) : Nat) := by omega
              have HB1 : Hid (Below wr.heap.size wr ((wr.alloc (.cells #[.int .i64 (p : Nat), .int .i64 (b p : Nat), .int .i64 ((b (p + 1) : Nat) + 256 * (b (p + 2) : Nat)), .int .i64 0] 30)).drew)) := (show Below wr.heap.size wr ((wr.alloc (.cells #[.int .i64 (p : Nat), .int .i64 (b p : Nat), .int .i64 ((b (p + 1) : Nat) + 256 * (b (p + 2) : Nat)), .int .i64 0] 30)).drew) from ((Below.refl _ _).alloc (Nat.le_refl _) _).drew)
              have e3 : Hid (wr.heap.size + 1 + 1 = (((wr.alloc (.cells #[.int .i64 (p : Nat), .int .i64 (b p : Nat), .int .i64 ((b (p + 1) : Nat) + 256 * (b (p + 2) : Nat)), .int .i64 0] 30)).drew).alloc (.cells #[.int .i64 (p : Nat), .int .i64 (b p : Nat), .int .i64 ((b (p + 1) : Nat) + 256 * (b (p + 2) : Nat)), .int .i64 0] 30)).heap.size) := (show wr.heap.size + 1 + 1 = ((wr.alloc (.cells #[.int .i64 (p : Nat), .int .i64 (b p : Nat), .int .i64 ((b (p + 1) : Nat) + 256 * (b (p + 2) : Nat)), .int .i64 0] 30)).alloc (.cells #[.int .i64 (p : Nat), .int .i64 (b p : Nat), .int .i64 ((b (p + 1) : Nat) + 256 * (b (p + 2) : Nat)), .int .i64 0] 30)).heap.size by rw [size_alloc, size_alloc])
              have HEC := Lib.hid ec
              clear ec
              go_wp2_with (at_builtin; refine wpList_row (by rfl) (.tmp 66) (.tmp 68) 25 rfl 30 i0 (.agg #[.int .i64 0, .int .i64 0, .int .i64 0, .int .i64 0]) 4 32 Try.underlying25 HI.out HZ0.out HZ1.out HZ2.out rfl (by decide) u4 acc.length (cellsI acc) rfl ((HK.out _ HB1.out).keeps ((Keeps.refl [] _).alloc _) (fun _ _ => List.not_mem_nil)) (.slice (some ⟨wr.heap.size + 1, 0, none⟩) 1 1) 1 [.int .i64 (p : Nat), .int .i64 (b p : Nat), .int .i64 ((b (p + 1) : Nat) + 256 * (b (p + 2) : Nat)), .int .i64 0] rfl (by rw [← size_alloc]; exact new_four (wr.alloc _) _ _ _ _ _) (ints_one _ _ _ _) HO1.out HO2.out ?_)
              intro v2 w2 hr2 hg2 hv2
              have hr3 : RowS w2 4 v2 (acc.length + 1) (cellsI acc ++ insCells (p, b p, b (p + 1) + 256 * b (p + 2), 0)) := by
                unfold insCells
                rw [HEC.out]
                exact hr2
              rw [e3.out] at hv2
              have HS2 := Lib.hid (HST.out _ w2 v2 _ HB1.out hr3 hg2 hv2)
              clear hr2 hg2 hv2 hr3
              go_wp2
              go_roundw
              case rel => first | exact ⟨p + 3, _, by go_num, by omega, HS2⟩ | ((repeat apply Exists.intro); exact ⟨⟨p + 3, _, by go_num, by omega, HS2⟩, rfl⟩)
              case measure => simp [intOf]; omega
    · obtain rfl : p = len := by omega
      have hR : R = (acc, 0) := by rw [← hs.out.val]; exact rdFrom_end hlt
      subst hR
      clear hlt
      go_wp2
      go_ret2
      exact ⟨u4, rfl, hs.out.row, hs.out.new, hs.out.bel⟩
theorem rRead_any (a : Option Addr) (len cap : Nat) (b : Nat → Nat) (w : World) (h : Bys w a len cap b) (hl : len ≤ 4398046511104) :
    Calls Try.prog 21 #[.slice a len cap] w (ReadDone (rdAll b len) w) := by
  rcases Nat.eq_zero_or_pos len with rfl | hpos
  · exact rRead_none a cap w
  · obtain ⟨g, off, rfl, hg, _⟩ := h.cell 0 hpos
    exact rRead_pos g off len cap b w h.le hl h.max hpos hg (fun i hi => by
      obtain ⟨g', off', e, _, hc⟩ := h.cell i hi
      cases e
      exact ⟨h.lt hi, hc⟩)
end Go.Proofs.Yteipnfnbepnpjaa

/- module's Read of nothing. -/
import Derived.Test.YteipnfnbepnpjaaModFail
import Derived.Deep.RegionLaw
namespace Go.Proofs.Yteipnfnbepnpjaa
open Go.RowKit Go.Maps
set_option linter.unusedVariables false
theorem zeros_str : strOf [0, 0, 0] = ⟨#[0, 0, 0]⟩ := by rfl
theorem slite_no (w : World) : Calls Try.prog 61 #[.string ⟨#[0, 0, 0]⟩, .string ⟨#[68, 67, 49]⟩] w fun e w' => e = .returned (.bool false) ∧ w = w' := by
  go_enter Try.func61, Try.ntmps61
  go_wp2
  go_ret
  exact ⟨ret_bool2 (by rw [ByteArray.toList_eq]; decide), rfl⟩
theorem prefix_no (w : World) : Calls Try.prog 46 #[.string ⟨#[0, 0, 0]⟩, .string ⟨#[68, 67, 49]⟩] w fun e w' => e = .returned (.bool false) ∧ w = w' := by
  go_enter Try.func46, Try.ntmps46
  go_wp2_with fail
  refine (slite_no _).mono ?_
  rintro e w1 ⟨rfl, rfl⟩
  go_wp2
  go_ret
  exact ⟨rfl, rfl⟩
theorem num20_any (e : Int) (w : World) : Calls Try.prog 29 #[.int .i64 e] w fun en w' => en = .returned (.int .i64 e) ∧ w = w' := by
  go_enter Try.func29, Try.ntmps29
  go_wp2
  go_ret
  exact ⟨rfl, rfl⟩
theorem bys_zero {w : World} {g : Nat} (h : Bys w (some ⟨g, 0, none⟩) 3 3 (fun _ => 0)) : HoldsB w (some ⟨g, 0, none⟩) 3 3 [0, 0, 0] := by
  refine ⟨rfl, Nat.le_refl _, by decide, fun e => (by cases e), fun i y hy => ?_, by decide⟩
  obtain ⟨_, _, e, hlt, c0⟩ := h.cell i (by have := (List.getElem?_eq_some_iff.1 hy).1; simpa using this)
  refine ⟨_, _, e, hlt, ?_⟩
  cases e
  rcases i with _ | _ | _ | i <;> simp at hy <;> subst hy <;> exact c0
/-- Read's own memory where it has failed -/
def RN (w : World) (W : World) : Prop := W.heap[w.heap.size]? = some (.cells #[.int .i64 0, .slice none 0 0, .slice none 0 0, .slice none 0 0] 47 (0, 0)) ∧ RdSt W (w.heap.size + 1) (.slice none 0 0) 7 ∧ W.heap[w.heap.size + 1 + 1]? = some (.cells #[.pointer (some ⟨w.heap.size + 1, 0, none⟩)] 80 (0, 0)) ∧ Below w.heap.size w W
theorem RN.keeps {w W W' : World} (h : RN w W) (hk : Keeps [w.heap.size + 1] W W') (hr : RdSt W' (w.heap.size + 1) (.slice none 0 0) 7) : RN w W' := by
  obtain ⟨h0, h1, h2, h3⟩ := h
  exact ⟨hk.at h0 (by simp), hr, hk.at h2 (by simp), h3.trans (hk.below h3.size (by simp))⟩
theorem RN.below {w W W' : World} (h : RN w W) (hb : Below W.heap.size W W') : RN w W' := by
  obtain ⟨h0, h1, h2, h3⟩ := h
  exact ⟨(hb.block _ (Array.getElem?_eq_some_iff.1 h0).1).trans h0, h1.below hb, (hb.block _ (Array.getElem?_eq_some_iff.1 h2).1).trans h2, h3.trans (hb.mono h3.size)⟩
theorem RN.ptr {w W : World} (h : RN w W) : W.cell? ⟨w.heap.size + 1 + 1, 0, none⟩ = some (.pointer (some ⟨w.heap.size + 1, 0, none⟩)) := cell_of_block h.2.2.1
theorem RN.left {w W : World} (h : RN w W) : W.cell? ⟨w.heap.size + 1, 0, none⟩ = some (.slice none 0 0) := cell_of_block h.2.1
theorem RN.why {w W : World} (h : RN w W) : W.cell? ⟨w.heap.size + 1, 1, none⟩ = some (.int .i64 7) := cell_of_block h.2.1
theorem RN.res {w W : World} (h : RN w W) : W.cell? ⟨w.heap.size, 0, none⟩ = some (.int .i64 0) ∧ W.cell? ⟨w.heap.size, 1, none⟩ = some (.slice none 0 0) ∧ W.cell? ⟨w.heap.size, 2, none⟩ = some (.slice none 0 0) ∧ W.cell? ⟨w.heap.size, 3, none⟩ = some (.slice none 0 0) ∧ W.frozen? ⟨w.heap.size, 0, none⟩ = false ∧ W.frozen? ⟨w.heap.size, 1, none⟩ = false ∧ W.frozen? ⟨w.heap.size, 2, none⟩ = false ∧ W.frozen? ⟨w.heap.size, 3, none⟩ = false :=
  ⟨cell_of_block h.1, cell_of_block h.1, cell_of_block h.1, cell_of_block h.1, free_of_block h.1, free_of_block h.1, free_of_block h.1, free_of_block h.1⟩
/-- what the first take does -/
def Tk3 (w : World) (en : Ending) (W : World) : Prop := ∃ g, en = .returned (.slice (some ⟨g, 0, none⟩) 3 3) ∧ HoldsB W (some ⟨g, 0, none⟩) 3 3 [0, 0, 0] ∧ RN w W
def rnW (w : World) : World := ((w.alloc (.cells #[.int .i64 0, .slice none 0 0, .slice none 0 0, .slice none 0 0] 47)).alloc (.cells #[.slice none 0 0, .int .i64 0] 82)).alloc (.cells #[.pointer (some ⟨w.heap.size + 1, 0, none⟩)] 80)
theorem rn_take (w W : World) (hb : Below (rnW w).heap.size (rnW w) W) : Calls Try.prog 47 #[.pointer (some ⟨w.heap.size + 1, 0, none⟩), .int .i64 3] W (Tk3 w) := by
  have b0 : (rnW w).heap[w.heap.size]? = some (.cells #[.int .i64 0, .slice none 0 0, .slice none 0 0, .slice none 0 0] 47 (0, 0)) := by
    unfold rnW
    rw [heap_alloc_lt _ _ (by simp only [size_alloc]; omega), heap_alloc_lt _ _ (by simp only [size_alloc]; omega)]
    exact heap_alloc_at _ _
  have b1 : RdSt (rnW w) (w.heap.size + 1) (.slice none 0 0) 0 := by
    unfold rnW RdSt
    rw [heap_alloc_lt _ _ (by simp only [size_alloc]; omega), ← size_alloc w]
    exact heap_alloc_at _ _
  have b2 : (rnW w).heap[w.heap.size + 1 + 1]? = some (.cells #[.pointer (some ⟨w.heap.size + 1, 0, none⟩)] 80 (0, 0)) := by
    have := heap_alloc_at ((w.alloc (.cells #[.int .i64 0, .slice none 0 0, .slice none 0 0, .slice none 0 0] 47)).alloc (.cells #[.slice none 0 0, .int .i64 0] 82)) (.cells #[.pointer (some ⟨w.heap.size + 1, 0, none⟩)] 80)
    simp only [size_alloc] at this
    exact this
  have b3 : Below w.heap.size w (rnW w) := (two_alloc _ _ _).alloc (by simp only [size_alloc]; omega) _
  refine (take_fail none 0 0 0 3 W (b1.below hb) (by decide) (.inr ⟨rfl, by decide⟩)).mono ?_
  rintro en w' ⟨g, rfl, hy, hr, hk⟩
  rw [if_pos rfl] at hr
  have h0 := (hb.block _ (Array.getElem?_eq_some_iff.1 b0).1).trans b0
  have h2 := (hb.block _ (Array.getElem?_eq_some_iff.1 b2).1).trans b2
  have h3 := b3.trans (hb.mono b3.size)
  exact ⟨g, rfl, bys_zero hy, hk.at h0 (by simp), hr, hk.at h2 (by simp), h3.trans (hk.below h3.size (by simp))⟩
set_option maxRecDepth 100000 in
set_option maxHeartbeats 4000000 in
theorem mRead_nil (w : World) : Calls Try.prog 31 #[.slice none 0 0] w fun e w' => e = .returned (.tuple #[.agg #[.int .i64 0, .slice none 0 0, .slice none 0 0, .slice none 0 0], .int .i64 7]) ∧ Below w.heap.size w w' := by
  obtain ⟨w1, hw1⟩ : ∃ w1, w1 = rnW w := ⟨_, rfl⟩
  have HT := Lib.hid (rn_take w)
  rw [← hw1] at HT
  have c0 : w1.cell? ⟨w.heap.size + 1 + 1, 0, none⟩ = some (.pointer (some ⟨w.heap.size + 1, 0, none⟩)) := by
    rw [hw1]
    have := heap_alloc_at ((w.alloc (.cells #[.int .i64 0, .slice none 0 0, .slice none 0 0, .slice none 0 0] 47)).alloc (.cells #[.slice none 0 0, .int .i64 0] 82)) (.cells #[.pointer (some ⟨w.heap.size + 1, 0, none⟩)] 80)
    simp only [size_alloc] at this
    exact cell_of_block this
  have HC0 := Lib.hid c0
  unfold rnW at hw1
  have HW1 := Lib.hid hw1
  have HP := Lib.hid (fun W => prefix_no W)
  have HF := Lib.hid (fun (b : Bool) (W : World) (h : RN w W) => wrong_fail b 7 W h.2.1 (by decide))
  have HCV := Lib.hid (fun (W : World) (g : Nat) (h : HoldsB W (some ⟨g, 0, none⟩) 3 3 [0, 0, 0]) => zeros_str ▸ h.conv)
  have HO : Hid (∀ (W : World) (h : RN w W), Calls Try.prog 48 #[.pointer (some ⟨w.heap.size + 1, 0, none⟩)] W fun en w' => en = .returned (.int .i64 0) ∧ RN w w') := (show ∀ (W : World) (h : RN w W), _ from fun W h => (one_fail none 0 0 7 W h.2.1 (by decide)).mono (by rintro en w' ⟨rfl, hr, hk⟩; exact ⟨rfl, h.keeps hk hr⟩))
  have HM : Hid (∀ (fv : Value) (W : World) (h : RN w W), Calls Try.prog 49 #[.pointer (some ⟨w.heap.size + 1, 0, none⟩), fv] W fun en w' => en = .returned (.tuple #[]) ∧ RN w w') := (show ∀ (fv : Value) (W : World) (h : RN w W), _ from fun fv W h => (many_fail none 0 0 7 fv W h.2.1 (by decide)).mono (by rintro en w' ⟨rfl, hr, hk⟩; exact ⟨rfl, h.keeps hk hr⟩))
  clear hw1 c0
  go_enter Try.func31, Try.ntmps31
  go_wp2_with fail
  rw [← HW1.out]
  have c0 := HC0.out
  go_region_law
    (first | (go_simp; go_at_call 47
              refine (HT.out _ (by first | exact (Below.refl _ _).drew | exact (Below.refl _ _).drew.drew)).mono ?_
              rintro en w4 ⟨g, rfl, hy4, hn4⟩
              have q4 := hn4.ptr
              have v0 := HCV.out w4 g hy4
              have v1 := HCV.out w4.drew g (hy4.below (Below.refl _ _).drew)
              have v2 := HCV.out w4.drew.drew g (hy4.below (Below.refl _ _).drew.drew))
           | (go_simp; go_at_call 46
              refine (HP.out _).mono ?_
              rintro en w5 ⟨rfl, rfl⟩)
           | (go_simp; go_at_call 45
              refine (HF.out _ _ (hn4.below (by first | exact Below.refl _ _ | exact (Below.refl _ _).drew | exact (Below.refl _ _).drew.drew | exact (Below.refl _ _).drew.drew.drew))).mono ?_
              rintro en w6 ⟨rfl, rfl⟩))
  all_goals
    have HR4 := Lib.hid hn4
    clear v0 v1 v2 hy4 hn4 c0 HC0
    go_wp2_with fail
    refine (HO.out _ HR4.out).mono ?_
    rintro en w5 ⟨rfl, hr5⟩
    obtain ⟨w6, hw6⟩ : ∃ w6, w6 = w5.alloc (.cells #[.int .i64 0, .slice none 0 0, .slice none 0 0, .slice none 0 0] 47) := ⟨_, rfl⟩
    have HW6 := Lib.hid hw6
    have HR6 : Hid (RN w w6) := (show RN w w6 by rw [hw6]; exact hr5.below ((Below.refl _ _).alloc (Nat.le_refl _) _))
    obtain ⟨g6, hg6⟩ : ∃ g6, g6 = w5.heap.size := ⟨_, rfl⟩
    have HG6 := Lib.hid hg6
    have q6 := HR6.out.ptr
    rw [hw6] at q6
    clear hr5 hw6 hg6
    go_wp2_with fail
    rw [← HW6.out, ← HG6.out]
    refine (HM.out _ _ HR6.out).mono ?_
    rintro en w7 ⟨rfl, hr7⟩
    have q7 := hr7.ptr
    have HR7 := Lib.hid hr7
    clear hr7
    go_wp2_with fail
    refine (HM.out _ _ HR7.out).mono ?_
    rintro en w8 ⟨rfl, hr8⟩
    have q8 := hr8.ptr
    have HR8 := Lib.hid hr8
    clear hr8
    go_wp2_with fail
    refine (HM.out _ _ HR8.out).mono ?_
    rintro en w9 ⟨rfl, hr9⟩
    have q9 := hr9.ptr
    have e0 := hr9.left
    have e1 := hr9.why
    have HR9 := Lib.hid hr9
    clear hr9 q6 q7 q8
    go_wp2_with fail
    go_region_held3 (fun W => W.cell? ⟨w.heap.size + 1 + 1, 0, none⟩ = some (.pointer (some ⟨w.heap.size + 1, 0, none⟩)) ∧ W.cell? ⟨w.heap.size + 1, 0, none⟩ = some (.slice none 0 0) ∧ W.cell? ⟨w.heap.size + 1, 1, none⟩ = some (.int .i64 7))
      (go_keep)
      (first | (go_at_call 45
                refine (HF.out _ _ (HR9.out.below (by first | exact Below.refl _ _ | exact (Below.refl _ _).drew | exact (Below.refl _ _).drew.drew | exact (Below.refl _ _).drew.drew.drew))).mono ?_
                rintro en w6 ⟨rfl, rfl⟩))
    have HR10 : Hid (RN w w9.drew) := (show RN w w9.drew from HR9.out.below (Below.refl _ _).drew)
    have q10 := HR10.out.ptr
    have e10 := HR10.out.why
    have hlt := Nat.lt_of_lt_of_le (Nat.lt_succ_self w.heap.size) (Nat.le_of_lt HR10.out.2.1.lt)
    obtain ⟨d0, d1, d2, d3, fz0, fz1, fz2, fz3⟩ := HR9.out.res
    have q9b := HR9.out.ptr
    have e9b := HR9.out.why
    clear q9 e0 e1
    go_wp2_with fail
    go_region
    go_wp2
    refine bodyPost_ret (v := .tuple #[.agg #[.int .i64 0, .slice none 0 0, .slice none 0 0, .slice none 0 0], .int .i64 7]) ?_ rfl ⟨rfl, ?_⟩
    · have hres : Try.f31.results = #[.cell 2 47, .tmp 3] := by kernel_rfl
      simp only [results, hres]
      go_simp
    · exact (((((HR9.out.2.2.2.setCell (Nat.le_refl _) _).setCell (Nat.le_refl _) _).setCell (Nat.le_refl _) _).setCell (Nat.le_refl _) _).drew).drew
end Go.Proofs.Yteipnfnbepnpjaa

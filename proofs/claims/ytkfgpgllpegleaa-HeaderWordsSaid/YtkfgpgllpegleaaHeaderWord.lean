/- header's Word computes what it says. -/
import Derived.Test.YtkfgpgllpegleaaHeader
import Derived.Deep.RegionHeld3
namespace Go.Proofs.Ytkfgpgllpegleaa
open Go.RowKit
set_option linter.unusedVariables false

theorem word_bad (k c r n o : Int) (z d : Bool) (h : rightB k c r n o = false) (w : World) : Calls Try.prog 33 #[hdrV k c r n o z d] w fun e w' => e = .returned (.int .u64 0) ∧ Below w.heap.size w w' := by
  have R := Lib.hid (fun w => right_any k c r n o z d w)
  rw [h] at R
  unfold hdrV at R ⊢
  clear h
  go_enter Try.func33, Try.ntmps33
  go_wp2_with fail
  refine (R.out _).mono ?_
  rintro e w' ⟨rfl, hb⟩
  have HB := Lib.hid hb
  clear hb
  go_wp2
  go_ret
  exact ⟨rfl, (((Below.refl _ _).alloc (Nat.le_refl _) _).trans (HB.out.mono (by rw [size_alloc]; omega)))⟩
theorem wordRef_bad (k c r n o : Int) (z d : Bool) (h : rightB k c r n o = false) (w : World) : Calls Try.prog 35 #[hdrV k c r n o z d] w fun e w' => e = .returned (.int .u64 0) ∧ Below w.heap.size w w' := by
  have R := Lib.hid (fun w => rightRef_any k c r n o z d w)
  rw [h] at R
  unfold hdrV at R ⊢
  clear h
  go_enter Try.func35, Try.ntmps35
  go_wp2_with fail
  refine (R.out _).mono ?_
  rintro e w' ⟨rfl, hb⟩
  have HB := Lib.hid hb
  clear hb
  go_wp2
  go_ret
  exact ⟨rfl, (((Below.refl _ _).alloc (Nat.le_refl _) _).trans (HB.out.mono (by rw [size_alloc]; omega)))⟩
/-- the parts of a header's word: number and bits -/
def partsH (k c r n o : Nat) (z d : Bool) : List (Nat × Nat) := [(k, 4), (c, 16), (r, 16), (n, 8), (o, 2), (bN z, 1), (bN d, 1)]
def bitsL : List (Nat × Nat) → Nat
  | [] => 0
  | x :: l => x.2 + bitsL l
def tailW : Nat → List (Nat × Nat) → Nat
  | _, [] => 0
  | a, x :: l => x.1 * 2 ^ a + tailW (a + x.2) l
/-- where Word stands -/
structure WordSt (L : List (Nat × Nat)) (T j a x : Nat) : Prop where
  bits : a + bitsL (L.drop j) = 48
  lt : x < 2 ^ a
  val : x + tailW a (L.drop j) = T
theorem WordSt.step {L : List (Nat × Nat)} {T j a x v n : Nat} (h : WordSt L T j a x) (hj : L[j]? = some (v, n)) (hv : v < 2 ^ n) : a + n ≤ 48 ∧ WordSt L T (j + 1) (a + n) (x + v * 2 ^ a) := by
  obtain ⟨hl, he⟩ := List.getElem?_eq_some_iff.1 hj
  obtain ⟨h1, h2, h3⟩ := h
  rw [List.drop_eq_getElem_cons hl, he] at h1 h3
  simp only [bitsL, tailW] at h1 h3
  refine ⟨by omega, by omega, ?_, by omega⟩
  have h4 : (v + 1) * 2 ^ a ≤ 2 ^ n * 2 ^ a := Nat.mul_le_mul_right _ hv
  rw [Nat.succ_mul, Nat.mul_comm (2 ^ n), ← Nat.pow_add] at h4
  omega
theorem WordSt.start (k c r n o : Nat) (z d : Bool) : WordSt (partsH k c r n o z d) (wordN k c r n o z d) 0 0 0 := by
  refine ⟨rfl, by decide, ?_⟩
  simp only [partsH, List.drop_zero, tailW, wordN]
  omega
theorem parts_lt {k c r n o : Nat} {z d : Bool} (hk : 1 ≤ k ∧ k ≤ 8) (hc : c ≤ 4000) (hr : r ≤ 4000) (hn : n ≤ 255) (ho : o ≤ 3) : ∀ (j v b : Nat), (partsH k c r n o z d)[j]? = some (v, b) → v < 2 ^ b ∧ v ≤ 4000 ∧ b ≤ 16
  | 0, v, b, h => by cases h; omega
  | 1, v, b, h => by cases h; omega
  | 2, v, b, h => by cases h; omega
  | 3, v, b, h => by cases h; omega
  | 4, v, b, h => by cases h; omega
  | 5, v, b, h => by cases h; have := bN_le z; omega
  | 6, v, b, h => by cases h; have := bN_le d; omega
  | j + 7, v, b, h => by simp [partsH] at h
def partCells (k c r n o : Nat) (z d : Bool) : Array Value := #[.int .i64 k, .int .i64 4, .int .i64 c, .int .i64 16, .int .i64 r, .int .i64 16, .int .i64 n, .int .i64 8, .int .i64 o, .int .i64 2, .int .i64 (bN z : Nat), .int .i64 1, .int .i64 (bN d : Nat), .int .i64 1]
theorem parts_cells {k c r n o : Nat} {z d : Bool} : ∀ (j v b : Nat), (partsH k c r n o z d)[j]? = some (v, b) → (partCells k c r n o z d)[j * 2]? = some (.int .i64 v) ∧ (partCells k c r n o z d)[j * 2 + 1]? = some (.int .i64 b)
  | 0, v, b, h => by cases h; exact ⟨rfl, rfl⟩
  | 1, v, b, h => by cases h; exact ⟨rfl, rfl⟩
  | 2, v, b, h => by cases h; exact ⟨rfl, rfl⟩
  | 3, v, b, h => by cases h; exact ⟨rfl, rfl⟩
  | 4, v, b, h => by cases h; exact ⟨rfl, rfl⟩
  | 5, v, b, h => by cases h; exact ⟨rfl, rfl⟩
  | 6, v, b, h => by cases h; exact ⟨rfl, rfl⟩
  | j + 7, v, b, h => by simp [partsH] at h
theorem two_cells : Try.prog.cellsOf 67 = 2 := by kernel_rfl
theorem rightB_nat {k c r n o : Nat} (hk : 1 ≤ k ∧ k ≤ 8) (hc : c ≤ 4000) (hr : r ≤ 4000) (hn : n ≤ 255) (ho : o ≤ 3) : rightB k c r n o = true := by
  simp [rightB]; omega
set_option maxHeartbeats 4000000 in
theorem word_good (k c r n o : Nat) (z d : Bool) (hk : 1 ≤ k ∧ k ≤ 8) (hc : c ≤ 4000) (hr : r ≤ 4000) (hn : n ≤ 255) (ho : o ≤ 3) (w : World) :
    Calls Try.prog 33 #[hdrV k c r n o z d] w fun e w' => e = .returned (.int .u64 (wordN k c r n o z d : Nat)) ∧ Below w.heap.size w w' := by
  have HLT := Lib.hid (parts_lt (z := z) (d := d) hk hc hr hn ho)
  have hcells := two_cells
  have R := Lib.hid (fun w => right_any k c r n o z d w)
  rw [rightB_nat hk hc hr hn ho] at R
  unfold hdrV at R ⊢
  go_enter Try.func33, Try.ntmps33
  go_wp2_with fail
  refine (R.out _).mono ?_
  rintro e w' ⟨rfl, hb⟩
  have hhd := (hb.block w.heap.size (by rw [size_alloc]; omega)).trans (heap_alloc_at _ _)
  have c0 : w'.cell? ⟨w.heap.size, 0, none⟩ = some (.int .i64 k) := by rw [cell_of_block hhd]; rfl
  have c1 : w'.cell? ⟨w.heap.size, 1, none⟩ = some (.int .i64 c) := by rw [cell_of_block hhd]; rfl
  have c2 : w'.cell? ⟨w.heap.size, 2, none⟩ = some (.int .i64 r) := by rw [cell_of_block hhd]; rfl
  have c3 : w'.cell? ⟨w.heap.size, 3, none⟩ = some (.int .i64 n) := by rw [cell_of_block hhd]; rfl
  have c4 : w'.cell? ⟨w.heap.size, 4, none⟩ = some (.int .i64 o) := by rw [cell_of_block hhd]; rfl
  have c5 : w'.cell? ⟨w.heap.size, 5, none⟩ = some (.bool z) := by rw [cell_of_block hhd]; rfl
  have c6 : w'.cell? ⟨w.heap.size, 6, none⟩ = some (.bool d) := by rw [cell_of_block hhd]; rfl
  have HB := Lib.hid (((Below.refl _ _).alloc (Nat.le_refl _) _).trans (hb.mono (by rw [size_alloc]; omega)))
  clear hb hhd
  go_wp2_with fail
  go_region_held3 (fun w' => w'.cell? ⟨w.heap.size, 0, none⟩ = some (.int .i64 k) ∧ w'.cell? ⟨w.heap.size, 1, none⟩ = some (.int .i64 c) ∧ w'.cell? ⟨w.heap.size, 2, none⟩ = some (.int .i64 r) ∧ w'.cell? ⟨w.heap.size, 3, none⟩ = some (.int .i64 n) ∧ w'.cell? ⟨w.heap.size, 4, none⟩ = some (.int .i64 o) ∧ w'.cell? ⟨w.heap.size, 5, none⟩ = some (.bool z) ∧ w'.cell? ⟨w.heap.size, 6, none⟩ = some (.bool d)) (go_keep)
    (first | (go_at_call 49; refine (flag_any _ _).mono ?_; rintro e w2 ⟨rfl, rfl⟩))
  go_wp2_with fail
  generalize hW : (World.drew _) = W1
  have HH : Hid (W1.heap[w'.heap.size]? = some (.cells (partCells k c r n o z d) 67 (0, 0))) := (show W1.heap[w'.heap.size]? = some (.cells (partCells k c r n o z d) 67 (0, 0)) by rw [← hW]; exact heap_alloc_at w' _)
  have HB1 : Hid (Below w.heap.size w W1) := (show Below w.heap.size w W1 by rw [← hW]; exact (HB.out.alloc HB.out.size _).drew)
  clear hW c0 c1 c2 c3 c4 c5 c6 hk hc hr hn ho
  go_loopw [3, 4, 35] (fun xv av iv wr => ∃ j a x : Nat, j ≤ 7 ∧ iv = .int .i64 j ∧ av = .int .i64 a ∧ xv = .int .u64 x ∧ a ≤ 48 ∧ Hid (WordSt (partsH k c r n o z d) (wordN k c r n o z d) j a x) ∧ Hid (Below W1.heap.size W1 wr)) (fun _ _ iv _ => 7 - (intOf iv).toNat)
  case atStart => exact ⟨0, 0, 0, Nat.zero_le _, rfl, rfl, rfl, Nat.zero_le _, WordSt.start _ _ _ _ _ _ _, Below.refl _ _⟩
  case round =>
    obtain ⟨j, a, x, hj, rfl, rfl, rfl, ha, hst, hw⟩ := hrel
    by_cases hlt : j < 7
    · obtain ⟨⟨v, b⟩, hp⟩ : ∃ p, (partsH k c r n o z d)[j]? = some p := ⟨_, List.getElem?_eq_getElem hlt⟩
      obtain ⟨q1, q2⟩ := parts_cells j v b hp
      obtain ⟨l1, l2, l3⟩ := HLT.out j v b hp
      obtain ⟨l4, hst2⟩ := hst.out.step hp l1
      have HS2 := Lib.hid hst2
      have hlb := (Array.getElem?_eq_some_iff.1 HH.out).1
      have d1 : wr.cell? ⟨w'.heap.size, j * 2, none⟩ = some (.int .i64 v) := (cell_of_block ((hw.out.block _ hlb).trans HH.out)).trans q1
      have d2 : wr.cell? ⟨w'.heap.size, j * 2 + 1, none⟩ = some (.int .i64 b) := (cell_of_block ((hw.out.block _ hlb).trans HH.out)).trans q2
      have hx64 : x < 18446744073709551616 := Nat.lt_of_lt_of_le hst.out.lt (by rw [show (18446744073709551616 : Nat) = 2 ^ 64 by decide]; exact Nat.pow_le_pow_right (by decide) (by omega))
      have HP := Lib.hid (put_eq x v a b (x + v * 2 ^ a) hx64 (by omega) (by omega) (by omega) (PutS_add hst.out.lt l1 (by omega)))
      obtain ⟨x2, hx2⟩ : ∃ x2, x2 = x + v * 2 ^ a := ⟨_, rfl⟩
      rw [← hx2] at HP HS2
      clear q1 q2 l1 hst2 hp hx64 hx2
      go_wp2_with fail
      refine (HP.out _).mono ?_
      rintro e w3 ⟨rfl, m, hw3⟩
      have HW3 : Hid (Below W1.heap.size W1 w3) := (show Below W1.heap.size W1 w3 by rw [hw3]; exact below_drewN (hw.out.alloc hw.out.size _) m)
      have e1 : w3.cell? ⟨wr.heap.size, 1, none⟩ = some (.int .i64 b) := by rw [hw3]; exact (cell_of_block (heap_alloc_at wr (.cells #[.int .i64 v, .int .i64 b] 67))).trans rfl
      clear hw3 hlb
      go_wp2_with fail
      go_roundw
      case rel => first | exact ⟨j + 1, a + b, x2, by omega, by go_num, by go_num, rfl, by omega, HS2, HW3⟩ | ((repeat apply Exists.intro); exact ⟨⟨j + 1, a + b, x2, by omega, by go_num, by go_num, rfl, by omega, HS2, HW3⟩, rfl⟩)
      case measure => simp [intOf]; omega
    · obtain rfl : j = 7 := by omega
      go_wp2_with fail
      go_ret
      have hv := hst.out.val
      refine ⟨?_, HB1.out.trans (hw.out.mono HB1.out.size)⟩
      have : x = wordN k c r n o z d := hv
      rw [this]
      rfl
end Go.Proofs.Ytkfgpgllpegleaa

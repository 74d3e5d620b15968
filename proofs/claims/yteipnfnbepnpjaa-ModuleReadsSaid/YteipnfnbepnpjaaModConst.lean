/- module's constant, of any constant whose text is short: the bytes of its writing. -/
import Derived.Test.YteipnfnbepnpjaaModRefM
namespace Go.Proofs.Yteipnfnbepnpjaa
open Go.RowKit Go.Maps
set_option linter.unusedVariables false
theorem AccB.base {w w1 wr : World} {v : Value} {acc : List Nat} (h : AccB w1 v acc wr) (hb : Below w.heap.size w w1) : AccB w v acc wr :=
  ⟨h.row, fun g hg => Nat.le_trans hb.size (h.new g hg), hb.trans (h.bel.mono hb.size)⟩
/-- how constant ends -/
def CnDone (w : World) (bs : List Nat) (en : Ending) (W : World) : Prop := ∃ v, en = .returned v ∧ AccB w v bs W
theorem byte_at2 (z : Int) (j : Nat) : IntKind.u64.wrap z / 2 ^ (8 * j) % 256 = ((u64N z / 256 ^ j % 256 : Nat) : Int) := by
  rw [shr8]; omega
set_option maxRecDepth 100000 in
set_option maxHeartbeats 4000000 in
theorem const_any (c : ConT) (w : World) (hs : c.2.2.size ≤ 255) :
    Calls Try.prog 42 #[.agg #[.bool c.1, .int .i64 c.2.1, .string c.2.2]] w (CnDone w (encC c)) := by
  obtain ⟨b, z, t⟩ := c
  dsimp only at hs ⊢
  have hts1 : ((t.size : Nat) : Int) ≤ 255 := by omega
  have hts0 : (0 : Int) ≤ ((t.size : Nat) : Int) := by omega
  obtain ⟨i0, hi, hz0, hz1, hz2⟩ := info_parts byteInfo
  have HI := Lib.hid hi
  have HZ0 := Lib.hid hz0
  have HZ1 := Lib.hid hz1
  have HZ2 := Lib.hid hz2
  clear hi hz0 hz1 hz2
  obtain ⟨Q, hQ⟩ : ∃ Q, Q = w.heap.size := ⟨_, rfl⟩
  have HQ := Lib.hid hQ
  obtain ⟨w1, hw1⟩ : ∃ w1, w1 = w.alloc (.cells #[.bool b, .int .i64 z, .string t] 63) := ⟨_, rfl⟩
  have HW1 := Lib.hid hw1
  have hb0 := heap_alloc_at w (.cells #[.bool b, .int .i64 z, .string t] 63)
  rw [← hw1, ← hQ] at hb0
  have HB0 := Lib.hid hb0
  have HB1 : Hid (Below w.heap.size w w1) := (show Below w.heap.size w w1 from by rw [hw1]; exact (Below.refl _ _).alloc (Nat.le_refl _) _)
  have hlt : Q < w1.heap.size := (Array.getElem?_eq_some_iff.1 hb0).1
  have k1 : w1.cell? ⟨Q, 1, none⟩ = some (.int .i64 z) := cell_of_block hb0
  have k2 : w1.cell? ⟨Q, 2, none⟩ = some (.string t) := cell_of_block hb0
  have hsz : w1.heap.size = Q + 1 := by rw [hw1, hQ, size_alloc]
  have HSZ := Lib.hid hsz
  clear hw1 hQ hb0
  cases b
  · clear k2
    obtain ⟨u, hu⟩ : ∃ u, u = u64N z := ⟨_, rfl⟩
    have HU := Lib.hid hu
    have HEC := Lib.hid (show encC (false, z, t) = (0 :: (leB 8 u).take 8) from by rw [List.take_of_length_le (by rw [length_leB]; omega), hu]; rfl)
    have HA4 : Hid (AccB w (.slice (some ⟨w1.heap.size, 0, none⟩) 1 1) (0 :: (leB 8 u).take 0) (w1.alloc (.cells (byteCells [0]).toArray 5))) := (show AccB w _ _ _ from (lit_acc w1 [0] 5 (by simp)).base HB1.out)
    have HQ4 : Hid ((w1.alloc (.cells (byteCells [0]).toArray 5)).heap[Q]? = some (.cells #[.bool false, .int .i64 z, .string t] 63 (0, 0)) ∧ ∀ g, (Value.slice (some ⟨w1.heap.size, 0, none⟩) 1 1).ownBlock = some g → g ≠ Q) :=
      (show _ ∧ _ from ⟨((Keeps.refl [] w1).alloc _).at HB0.out List.not_mem_nil, fun g hg => by cases hg; show w1.heap.size ≠ Q; omega⟩)
    rw [hsz] at HA4 HQ4
    clear hu k1 hsz
    go_enter Try.func42, Try.ntmps42
    go_wp2_with fail
    rw [← HW1.out, ← HQ.out]
    go_loopw [3, 16] (fun v i wr => ∃ j : Nat, i = .int .i64 (j : Nat) ∧ j ≤ 8 ∧ Hid (AccB w v (0 :: (leB 8 u).take j) wr ∧ wr.heap[Q]? = some (.cells #[.bool false, .int .i64 z, .string t] 63 (0, 0)) ∧ ∀ g, v.ownBlock = some g → g ≠ Q)) (fun _ i _ => 8 - (intOf i).toNat)
    case atStart => exact ⟨0, rfl, by omega, HA4.out, HQ4.out.1, HQ4.out.2⟩
    case round =>
      obtain ⟨j, rfl, hj, hs5⟩ := hrel
      obtain ⟨wp, rfl⟩ : ∃ wp : World, wp = wr := ⟨_, rfl⟩
      obtain ⟨v5, rfl⟩ : ∃ v, v = u3 := ⟨_, rfl⟩
      have c1 : wp.cell? ⟨Q, 1, none⟩ = some (.int .i64 z) := cell_of_block hs5.out.2.1
      by_cases hj8 : j < 8
      · have hj0 : (0 : Int) ≤ (j : Int) := by omega
        have hj1 : (j : Int) < 8 := by omega
        obtain ⟨y, hy⟩ : ∃ y, y = u / 256 ^ j % 256 := ⟨_, rfl⟩
        have hnum : IntKind.u64.wrap z / 2 ^ (8 * j) % 256 = ((y : Nat) : Int) := by rw [byte_at2, hy, HU.out]
        obtain ⟨A, hA⟩ : ∃ A, A = (0 :: (leB 8 u).take j) := ⟨_, rfl⟩
        have HLS := Lib.hid (show (0 :: (leB 8 u).take (j + 1)) = A ++ [y] from by rw [hA, leB_succ 8 u j hj8, hy]; simp)
        have HL2 := Lib.hid (show A.length ≤ 9 from by rw [hA, List.length_cons, List.length_take]; have := length_leB 8 u; omega)
        have HO3 := Lib.hid (show A.length + 1 ≤ maxLen from by have := HL2.out; unfold maxLen; omega)
        have HO4 := Lib.hid (show (A.length + 1) * 1 ≤ 140737488355328 from by have := HL2.out; omega)
        rw [← hA] at hs5
        have HS5 := Lib.hid hs5.out
        clear hy hA hs5
        go_wp2_with (at_builtin; refine wpList_row (by rfl) (.tmp 19) (.tmp 27) 26 rfl 5 i0 (.int .u8 0) 1 1 Try.underlying26 HI.out HZ0.out HZ1.out HZ2.out rfl (by decide) v5 _ (byteCells A) rfl (HS5.out.1.row.keeps0 ((Keeps.refl _ _).alloc _)) (.slice (some ⟨wp.heap.size, 0, none⟩) 1 1) 1 (byteCells [y]) rfl (new_bytes _ [y] _) (byteCells_one _) HO3.out HO4.out ?_)
        intro v6 w6 hr6 hg6 hv6
        have HA6 : Hid (AccB w v6 (0 :: (leB 8 u).take (j + 1)) w6 ∧ w6.heap[Q]? = some (.cells #[.bool false, .int .i64 z, .string t] 63 (0, 0)) ∧ ∀ g, v6.ownBlock = some g → g ≠ Q) :=
          (show AccB w v6 (0 :: (leB 8 u).take (j + 1)) w6 ∧ w6.heap[Q]? = some (.cells #[.bool false, .int .i64 z, .string t] 63 (0, 0)) ∧ ∀ g, v6.ownBlock = some g → g ≠ Q from by
            obtain ⟨s1, s2, s3⟩ := HS5.out
            have hQl := (Array.getElem?_eq_some_iff.1 s2).1
            refine ⟨HLS.out ▸ (s1.keeps0 ((Keeps.refl _ _).alloc _)).push0 (bs := [y]) rfl rfl hr6 hg6 (by simpa only [size_alloc] using hv6), (hg6.block Q (by rw [size_alloc]; omega) (fun e => s3 Q e.symm rfl)).trans (((Keeps.refl [] wp).alloc _).at s2 List.not_mem_nil), fun g hg => ?_⟩
            rcases hv6 with hv6 | ⟨g', hv6, hge⟩
            · exact s3 g (by rw [← hv6]; exact hg)
            · rw [hv6] at hg; cases hg; omega)
        clear hr6 hg6 hv6 hnum c1
        go_wp2
        go_roundw
        case rel => first | exact ⟨j + 1, by go_num, by omega, HA6⟩ | ((repeat apply Exists.intro); exact ⟨⟨j + 1, by go_num, by omega, HA6⟩, rfl⟩)
        case measure => simp [intOf]; omega
      · obtain rfl : j = 8 := by omega
        have HA7 : Hid (AccB w v5 (encC (false, z, t)) wp) := (show AccB w v5 _ wp from HEC.out ▸ hs5.out.1)
        obtain ⟨a, cap, rfl, _⟩ := hs5.out.1.row.read
        clear hj8 c1 hs5
        go_wp2
        go_ret
        exact ⟨_, rfl, HA7.out⟩
  · clear k1 k2 hlt
    have HO1 := Lib.hid (show ([1, t.size] : List Nat).length + t.size ≤ maxLen from by simp only [List.length_cons, List.length_nil]; unfold maxLen; omega)
    have HO2 := Lib.hid (show ([1, t.size] : List Nat).length + t.size ≤ 140737488355328 from by simp only [List.length_cons, List.length_nil]; omega)
    have hA4 := (lit_acc w1 [1, t.size] 5 (by simp)).base HB1.out
    rw [hsz, HW1.out, HQ.out] at hA4
    have HA4 := Lib.hid hA4
    clear hA4 hsz
    go_enter Try.func42, Try.ntmps42
    go_wp2_with (at_builtin; refine wpList_row_str (by rfl) (.tmp 11) (.tmp 13) 26 9 rfl 5 i0 Try.underlying26 Try.underlying9 HI.out HZ0.out HZ1.out HZ2.out (.slice (some ⟨w.heap.size + 1, 0, none⟩) 2 2) _ (byteCells [1, t.size]) rfl HA4.out.row t rfl HO1.out HO2.out ?_)
    intro v5 w5 hr5 hg5 hv5
    have HA5 : Hid (AccB w v5 (encC (true, z, t)) w5) := (show AccB w v5 ([1, t.size] ++ bsOf t) w5 from HA4.out.push0 (bs := bsOf t) (length_bsOf t).symm rfl hr5 hg5 (by rw [size_alloc, size_alloc]; exact hv5))
    obtain ⟨a, cap, rfl, _⟩ := hr5.read
    clear hr5 hg5 hv5
    go_wp2
    go_ret
    exact ⟨_, rfl, HA5.out⟩
end Go.Proofs.Yteipnfnbepnpjaa

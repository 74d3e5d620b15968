/- The walk of the law TopNames: it answers true. -/
import Derived.Test.YtogifanooleppaaMem
import Derived.WalkLawsBesides
namespace Go.Proofs.Ytogifanooleppaa
open Go.RowKit
set_option linter.unusedVariables false

theorem tn_cells : Try.prog.cellsOf 65 = 2 := by kernel_rfl
theorem are_any (b n : Nat) (w : World) (hn : n ≤ 100) (hc : ∀ i, i < n → ∃ v : Int, w.cell? ⟨b, i * 2, none⟩ = some (.int .i64 v) ∧ w.cell? ⟨b, i * 2 + 1, none⟩ = some (.int .i64 v)) :
    Calls Try.prog 50 #[.slice (some ⟨b, 0, none⟩) n n] w fun e w' => e = .returned (.bool true) ∧ ∃ m, w' = w.drewN m := by
  have HC := Lib.hid hc
  have hcells := tn_cells
  clear hc
  go_enter Try.func50, Try.ntmps50
  go_wp2
  go_loopw [3] (fun i wr => ∃ k m : Nat, k ≤ n ∧ i = .int .i64 k ∧ Hid (wr = w.drewN m)) (fun i _ => n - (intOf i).toNat)
  case atStart => exact ⟨0, 0, Nat.zero_le _, rfl, rfl⟩
  case round =>
    obtain ⟨k, m, hk, rfl, hw⟩ := hrel
    by_cases hlt : k < n
    · obtain ⟨v, h1, h2⟩ := HC.out k hlt
      have g1 : wr.cell? ⟨b, k * 2, none⟩ = some (.int .i64 v) := by rw [hw.out]; exact h1
      have g2 : wr.cell? ⟨b, k * 2 + 1, none⟩ = some (.int .i64 v) := by rw [hw.out]; exact h2
      clear h1 h2
      have b1 : (0 : Int) ≤ (k : Int) := by omega
      have b2 : (k : Int) < (n : Int) := by omega
      go_wp2_with fail
      go_quiet (fail)
      go_wp2
      go_roundw
      case rel => first | exact ⟨k + 1, _, by omega, by go_num, by rw [hw.out]; exact World.drewN_drewN _ _ _⟩ | ((repeat apply Exists.intro); exact ⟨⟨k + 1, _, by omega, by go_num, by rw [hw.out]; exact World.drewN_drewN _ _ _⟩, rfl⟩)
      case measure => simp [intOf]; omega
    · go_wp2
      go_ret
      exact ⟨rfl, m, hw.out⟩
theorem tn_pairs (w : World) (cs : Array Value) (t n : Nat) (h : ∀ i, i < n → ∃ v : Int, cs[i * 2]? = some (.int .i64 v) ∧ cs[i * 2 + 1]? = some (.int .i64 v)) :
    ∀ i, i < n → ∃ v : Int, (w.alloc (.cells cs t)).cell? ⟨w.heap.size, i * 2, none⟩ = some (.int .i64 v) ∧ (w.alloc (.cells cs t)).cell? ⟨w.heap.size, i * 2 + 1, none⟩ = some (.int .i64 v) := fun i hi => by
  rw [cell_of_block (heap_alloc_at w _), cell_of_block (heap_alloc_at w _)]
  exact h i hi
def tnc_first : Array Value := #[.int .i64 0, .int .i64 0, .int .i64 1, .int .i64 1, .int .i64 2, .int .i64 2, .int .i64 3, .int .i64 3, .int .i64 4, .int .i64 4, .int .i64 5, .int .i64 5, .int .i64 6, .int .i64 6, .int .i64 7, .int .i64 7, .int .i64 8, .int .i64 8, .int .i64 9, .int .i64 9, .int .i64 10, .int .i64 10, .int .i64 11, .int .i64 11, .int .i64 12, .int .i64 12, .int .i64 13, .int .i64 13, .int .i64 14, .int .i64 14, .int .i64 15, .int .i64 15, .int .i64 64, .int .i64 64, .int .i64 4096, .int .i64 4096, .int .i64 4000, .int .i64 4000]
theorem tnp_first : ∀ i, i < 19 → ∃ v : Int, tnc_first[i * 2]? = some (.int .i64 v) ∧ tnc_first[i * 2 + 1]? = some (.int .i64 v)
  | 0, _ => ⟨0, rfl, rfl⟩
  | 1, _ => ⟨1, rfl, rfl⟩
  | 2, _ => ⟨2, rfl, rfl⟩
  | 3, _ => ⟨3, rfl, rfl⟩
  | 4, _ => ⟨4, rfl, rfl⟩
  | 5, _ => ⟨5, rfl, rfl⟩
  | 6, _ => ⟨6, rfl, rfl⟩
  | 7, _ => ⟨7, rfl, rfl⟩
  | 8, _ => ⟨8, rfl, rfl⟩
  | 9, _ => ⟨9, rfl, rfl⟩
  | 10, _ => ⟨10, rfl, rfl⟩
  | 11, _ => ⟨11, rfl, rfl⟩
  | 12, _ => ⟨12, rfl, rfl⟩
  | 13, _ => ⟨13, rfl, rfl⟩
  | 14, _ => ⟨14, rfl, rfl⟩
  | 15, _ => ⟨15, rfl, rfl⟩
  | 16, _ => ⟨64, rfl, rfl⟩
  | 17, _ => ⟨4096, rfl, rfl⟩
  | 18, _ => ⟨4000, rfl, rfl⟩
  | n + 19, h => absurd h (by omega)
set_option maxHeartbeats 1000000 in
theorem tn_first (w : World) : Calls Try.prog 14 #[] w fun e w' => e = .returned (.bool true) ∧ Below w.heap.size w w' := by
  go_enter Try.func14, Try.ntmps14
  go_wp2_with fail
  refine (are_any w.heap.size 19 _ (by decide) (tn_pairs w tnc_first _ _ tnp_first)).mono ?_
  rintro e w' ⟨rfl, m, rfl⟩
  go_wp2
  go_ret
  exact ⟨rfl, below_drewN ((Below.refl _ _).alloc (Nat.le_refl _) _) m⟩
def tnc_second : Array Value := #[.int .i64 4000, .int .i64 4000, .int .i64 255, .int .i64 255, .int .i64 100, .int .i64 100, .int .i64 200, .int .i64 200, .int .i64 4000, .int .i64 4000, .int .i64 50, .int .i64 50, .int .i64 100, .int .i64 100, .int .i64 100, .int .i64 100, .int .i64 65536, .int .i64 65536, .int .i64 0, .int .i64 0, .int .i64 1, .int .i64 1, .int .i64 2, .int .i64 2, .int .i64 3, .int .i64 3, .int .i64 1, .int .i64 1, .int .i64 2, .int .i64 2, .int .i64 3, .int .i64 3, .int .i64 4, .int .i64 4, .int .i64 5, .int .i64 5, .int .i64 6, .int .i64 6]
theorem tnp_second : ∀ i, i < 19 → ∃ v : Int, tnc_second[i * 2]? = some (.int .i64 v) ∧ tnc_second[i * 2 + 1]? = some (.int .i64 v)
  | 0, _ => ⟨4000, rfl, rfl⟩
  | 1, _ => ⟨255, rfl, rfl⟩
  | 2, _ => ⟨100, rfl, rfl⟩
  | 3, _ => ⟨200, rfl, rfl⟩
  | 4, _ => ⟨4000, rfl, rfl⟩
  | 5, _ => ⟨50, rfl, rfl⟩
  | 6, _ => ⟨100, rfl, rfl⟩
  | 7, _ => ⟨100, rfl, rfl⟩
  | 8, _ => ⟨65536, rfl, rfl⟩
  | 9, _ => ⟨0, rfl, rfl⟩
  | 10, _ => ⟨1, rfl, rfl⟩
  | 11, _ => ⟨2, rfl, rfl⟩
  | 12, _ => ⟨3, rfl, rfl⟩
  | 13, _ => ⟨1, rfl, rfl⟩
  | 14, _ => ⟨2, rfl, rfl⟩
  | 15, _ => ⟨3, rfl, rfl⟩
  | 16, _ => ⟨4, rfl, rfl⟩
  | 17, _ => ⟨5, rfl, rfl⟩
  | 18, _ => ⟨6, rfl, rfl⟩
  | n + 19, h => absurd h (by omega)
set_option maxHeartbeats 1000000 in
theorem tn_second (w : World) : Calls Try.prog 15 #[] w fun e w' => e = .returned (.bool true) ∧ Below w.heap.size w w' := by
  go_enter Try.func15, Try.ntmps15
  go_wp2_with fail
  refine (are_any w.heap.size 19 _ (by decide) (tn_pairs w tnc_second _ _ tnp_second)).mono ?_
  rintro e w' ⟨rfl, m, rfl⟩
  go_wp2
  go_ret
  exact ⟨rfl, below_drewN ((Below.refl _ _).alloc (Nat.le_refl _) _) m⟩
def tnc_third : Array Value := #[.int .i64 7, .int .i64 7, .int .i64 8, .int .i64 8, .int .i64 0, .int .i64 0, .int .i64 1, .int .i64 1, .int .i64 2, .int .i64 2, .int .i64 3, .int .i64 3, .int .i64 0, .int .i64 0, .int .i64 1, .int .i64 1, .int .i64 2, .int .i64 2, .int .i64 3, .int .i64 3, .int .i64 4, .int .i64 4, .int .i64 5, .int .i64 5, .int .i64 6, .int .i64 6, .int .i64 7, .int .i64 7, .int .i64 8, .int .i64 8, .int .i64 9, .int .i64 9, .int .i64 10, .int .i64 10, .int .i64 11, .int .i64 11, .int .i64 12, .int .i64 12]
theorem tnp_third : ∀ i, i < 19 → ∃ v : Int, tnc_third[i * 2]? = some (.int .i64 v) ∧ tnc_third[i * 2 + 1]? = some (.int .i64 v)
  | 0, _ => ⟨7, rfl, rfl⟩
  | 1, _ => ⟨8, rfl, rfl⟩
  | 2, _ => ⟨0, rfl, rfl⟩
  | 3, _ => ⟨1, rfl, rfl⟩
  | 4, _ => ⟨2, rfl, rfl⟩
  | 5, _ => ⟨3, rfl, rfl⟩
  | 6, _ => ⟨0, rfl, rfl⟩
  | 7, _ => ⟨1, rfl, rfl⟩
  | 8, _ => ⟨2, rfl, rfl⟩
  | 9, _ => ⟨3, rfl, rfl⟩
  | 10, _ => ⟨4, rfl, rfl⟩
  | 11, _ => ⟨5, rfl, rfl⟩
  | 12, _ => ⟨6, rfl, rfl⟩
  | 13, _ => ⟨7, rfl, rfl⟩
  | 14, _ => ⟨8, rfl, rfl⟩
  | 15, _ => ⟨9, rfl, rfl⟩
  | 16, _ => ⟨10, rfl, rfl⟩
  | 17, _ => ⟨11, rfl, rfl⟩
  | 18, _ => ⟨12, rfl, rfl⟩
  | n + 19, h => absurd h (by omega)
set_option maxHeartbeats 1000000 in
theorem tn_third (w : World) : Calls Try.prog 16 #[] w fun e w' => e = .returned (.bool true) ∧ Below w.heap.size w w' := by
  go_enter Try.func16, Try.ntmps16
  go_wp2_with fail
  refine (are_any w.heap.size 19 _ (by decide) (tn_pairs w tnc_third _ _ tnp_third)).mono ?_
  rintro e w' ⟨rfl, m, rfl⟩
  go_wp2
  go_ret
  exact ⟨rfl, below_drewN ((Below.refl _ _).alloc (Nat.le_refl _) _) m⟩
def tnc_fourth : Array Value := #[.int .i64 13, .int .i64 13, .int .i64 14, .int .i64 14, .int .i64 15, .int .i64 15, .int .i64 16, .int .i64 16, .int .i64 17, .int .i64 17, .int .i64 18, .int .i64 18, .int .i64 19, .int .i64 19, .int .i64 20, .int .i64 20, .int .i64 21, .int .i64 21, .int .i64 22, .int .i64 22, .int .i64 23, .int .i64 23, .int .i64 24, .int .i64 24, .int .i64 25, .int .i64 25, .int .i64 26, .int .i64 26, .int .i64 27, .int .i64 27, .int .i64 28, .int .i64 28, .int .i64 29, .int .i64 29, .int .i64 30, .int .i64 30, .int .i64 31, .int .i64 31]
theorem tnp_fourth : ∀ i, i < 19 → ∃ v : Int, tnc_fourth[i * 2]? = some (.int .i64 v) ∧ tnc_fourth[i * 2 + 1]? = some (.int .i64 v)
  | 0, _ => ⟨13, rfl, rfl⟩
  | 1, _ => ⟨14, rfl, rfl⟩
  | 2, _ => ⟨15, rfl, rfl⟩
  | 3, _ => ⟨16, rfl, rfl⟩
  | 4, _ => ⟨17, rfl, rfl⟩
  | 5, _ => ⟨18, rfl, rfl⟩
  | 6, _ => ⟨19, rfl, rfl⟩
  | 7, _ => ⟨20, rfl, rfl⟩
  | 8, _ => ⟨21, rfl, rfl⟩
  | 9, _ => ⟨22, rfl, rfl⟩
  | 10, _ => ⟨23, rfl, rfl⟩
  | 11, _ => ⟨24, rfl, rfl⟩
  | 12, _ => ⟨25, rfl, rfl⟩
  | 13, _ => ⟨26, rfl, rfl⟩
  | 14, _ => ⟨27, rfl, rfl⟩
  | 15, _ => ⟨28, rfl, rfl⟩
  | 16, _ => ⟨29, rfl, rfl⟩
  | 17, _ => ⟨30, rfl, rfl⟩
  | 18, _ => ⟨31, rfl, rfl⟩
  | n + 19, h => absurd h (by omega)
set_option maxHeartbeats 1000000 in
theorem tn_fourth (w : World) : Calls Try.prog 17 #[] w fun e w' => e = .returned (.bool true) ∧ Below w.heap.size w w' := by
  go_enter Try.func17, Try.ntmps17
  go_wp2_with fail
  refine (are_any w.heap.size 19 _ (by decide) (tn_pairs w tnc_fourth _ _ tnp_fourth)).mono ?_
  rintro e w' ⟨rfl, m, rfl⟩
  go_wp2
  go_ret
  exact ⟨rfl, below_drewN ((Below.refl _ _).alloc (Nat.le_refl _) _) m⟩
def tnc_fifth : Array Value := #[.int .i64 32, .int .i64 32, .int .i64 33, .int .i64 33, .int .i64 34, .int .i64 34, .int .i64 35, .int .i64 35, .int .i64 36, .int .i64 36, .int .i64 37, .int .i64 37, .int .i64 38, .int .i64 38, .int .i64 39, .int .i64 39, .int .i64 40, .int .i64 40, .int .i64 41, .int .i64 41, .int .i64 42, .int .i64 42, .int .i64 43, .int .i64 43, .int .i64 44, .int .i64 44, .int .i64 0, .int .i64 0, .int .i64 1, .int .i64 1, .int .i64 2, .int .i64 2, .int .i64 3, .int .i64 3, .int .i64 4, .int .i64 4]
theorem tnp_fifth : ∀ i, i < 18 → ∃ v : Int, tnc_fifth[i * 2]? = some (.int .i64 v) ∧ tnc_fifth[i * 2 + 1]? = some (.int .i64 v)
  | 0, _ => ⟨32, rfl, rfl⟩
  | 1, _ => ⟨33, rfl, rfl⟩
  | 2, _ => ⟨34, rfl, rfl⟩
  | 3, _ => ⟨35, rfl, rfl⟩
  | 4, _ => ⟨36, rfl, rfl⟩
  | 5, _ => ⟨37, rfl, rfl⟩
  | 6, _ => ⟨38, rfl, rfl⟩
  | 7, _ => ⟨39, rfl, rfl⟩
  | 8, _ => ⟨40, rfl, rfl⟩
  | 9, _ => ⟨41, rfl, rfl⟩
  | 10, _ => ⟨42, rfl, rfl⟩
  | 11, _ => ⟨43, rfl, rfl⟩
  | 12, _ => ⟨44, rfl, rfl⟩
  | 13, _ => ⟨0, rfl, rfl⟩
  | 14, _ => ⟨1, rfl, rfl⟩
  | 15, _ => ⟨2, rfl, rfl⟩
  | 16, _ => ⟨3, rfl, rfl⟩
  | 17, _ => ⟨4, rfl, rfl⟩
  | n + 18, h => absurd h (by omega)
set_option maxHeartbeats 1000000 in
theorem tn_fifth (w : World) : Calls Try.prog 18 #[] w fun e w' => e = .returned (.bool true) ∧ Below w.heap.size w w' := by
  go_enter Try.func18, Try.ntmps18
  go_wp2_with fail
  refine (are_any w.heap.size 18 _ (by decide) (tn_pairs w tnc_fifth _ _ tnp_fifth)).mono ?_
  rintro e w' ⟨rfl, m, rfl⟩
  go_wp2
  go_ret
  exact ⟨rfl, below_drewN ((Below.refl _ _).alloc (Nat.le_refl _) _) m⟩
theorem topNames.walk (w : World) : Calls Try.prog 3 #[] w fun e w' => e = .returned (.bool true) ∧ Below w.heap.size w w' := by
  go_enter Try.func3, Try.ntmps3
  go_wp2_with fail
  refine (tn_first _).mono ?_
  rintro e w1 ⟨rfl, h1⟩
  have H1 := Lib.hid h1
  clear h1
  go_wp2_with fail
  refine (tn_second _).mono ?_
  rintro e w2 ⟨rfl, h2⟩
  have H2 := Lib.hid (H1.out.trans (h2.mono H1.out.size))
  clear h2
  go_wp2_with fail
  refine (tn_third _).mono ?_
  rintro e w3 ⟨rfl, h3⟩
  have H3 := Lib.hid (H2.out.trans (h3.mono H2.out.size))
  clear h3
  go_wp2_with fail
  refine (tn_fourth _).mono ?_
  rintro e w4 ⟨rfl, h4⟩
  have H4 := Lib.hid (H3.out.trans (h4.mono H3.out.size))
  clear h4
  go_wp2_with fail
  refine (tn_fifth _).mono ?_
  rintro e w5 ⟨rfl, h5⟩
  have H5 := Lib.hid (H4.out.trans (h5.mono H4.out.size))
  clear h5
  go_wp2
  go_ret
  exact ⟨rfl, H5.out⟩
end Go.Proofs.Ytogifanooleppaa

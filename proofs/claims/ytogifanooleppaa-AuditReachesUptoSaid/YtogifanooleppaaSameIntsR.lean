/- the reference's SameInts of two rows that hold the same. -/
import Derived.Test.YtogifanooleppaaAccI
import Derived.BigQuiet
namespace Go.Proofs.Ytogifanooleppaa
open Go.RowKit
set_option linter.unusedVariables false

theorem sameInts_r (l : List Int) (v1 v2 : Value) (w : World) (h1 : RowS w 1 v1 l.length (intC l)) (h2 : RowS w 1 v2 l.length (intC l)) :
    Calls Try.prog 36 #[v1, v2] w fun e w' => e = .returned (.bool true) ∧ ∃ k, w' = w.drewN k := by
  obtain ⟨a1, c1, rfl, p1, p2, _⟩ := h1.read
  obtain ⟨a2, c2, rfl, p3, p4, _⟩ := h2.read
  have H1 := Lib.hid h1
  have H2 := Lib.hid h2
  unfold maxLen at p2 p4
  clear h1 h2
  go_enter Try.func36, Try.ntmps36
  go_wp2
  go_loopw [5] (fun i wr => ∃ k m : Nat, i = .int .i64 k ∧ k ≤ l.length ∧ wr = w.drewN m) (fun i _ => l.length - (intOf i).toNat)
  case atStart => exact ⟨0, 0, rfl, Nat.zero_le _, rfl⟩
  case round =>
    obtain ⟨k, m, rfl, hk, rfl⟩ := hrel
    by_cases hlt : k < l.length
    · obtain ⟨g, off, rfl, _, c0⟩ := row_cell H1.out rfl hlt
      obtain ⟨g2, off2, rfl, _, d0⟩ := row_cell H2.out rfl hlt
      have hi0 : (0 : Int) ≤ (k : Int) := by omega
      have hi1 : (k : Int) < (l.length : Int) := by omega
      generalize hg l k = x at c0 d0
      go_wp2_with fail
      go_quiet (fail)
      go_wp2
      go_roundw
      case rel => first | exact ⟨k + 1, _, by go_num, by omega, World.drewN_drewN _ _ _⟩ | exact ⟨k + 1, _, by go_num, by omega, rfl⟩ | ((repeat apply Exists.intro); exact ⟨⟨k + 1, _, by go_num, by omega, rfl⟩, rfl⟩)
      case measure => simp [intOf]; omega
    · obtain rfl : k = l.length := by omega
      clear hlt
      go_wp2
      go_ret
      exact ⟨rfl, m, rfl⟩
end Go.Proofs.Ytogifanooleppaa

/- bitset's Free computes what it says. -/
import Derived.Test.YtkfgpgllpegleaaDoorSetRun
namespace Go.Proofs.YtkfgpgllpegleaaDoor
open Go.RowKit
set_option linter.unusedVariables false

theorem free_any {p g n : Nat} {S : Nat → Bool} (w : World) (h : SetAt w p g n S) :
    Calls Tryd.prog 16 #[.pointer (some ⟨p, 0, none⟩)] w (SomeRun n S 1 w) := by
  have C := Lib.hid (setRun_low 1 w h (Int.le_refl _))
  clear h
  go_enter Tryd.func16, Tryd.ntmps16
  go_wp2_with fail
  refine C.out.mono ?_
  rintro e w' ⟨r, rfl, h1, rfl⟩
  have H1 := Lib.hid h1
  clear h1
  go_wp2
  go_ret
  exact ⟨r, rfl, H1.out, rfl⟩
end Go.Proofs.YtkfgpgllpegleaaDoor

/- line's Words computes what it says. -/
import Derived.Test.YtkfgpgllpegleaaLine
namespace Go.Proofs.Ytkfgpgllpegleaa
open Go.RowKit
set_option linter.unusedVariables false

theorem words_any {p bud : Nat} {q : Option Nat} {l : List (Int × Nat)} (w : World) (h : LineAt w p q bud l) :
    Calls Try.prog 26 #[.pointer (some ⟨p, 0, none⟩)] w fun e w' => e = .returned (.int .i64 (sumL l : Nat)) ∧ w = w' := by
  obtain ⟨T, v, hp, hv, hr⟩ := h.at_
  have c1 : w.cell? ⟨p, 1, none⟩ = some (.int .i64 (sumL l : Nat)) := by rw [cell_of_block hp]; rfl
  clear h hp hv hr
  go_enter Try.func26, Try.ntmps26
  go_wp2
  go_ret
  exact ⟨rfl, rfl⟩
end Go.Proofs.Ytkfgpgllpegleaa

/- The example of chapter 2 holds. -/
import Derived.Test.YtkfgpgllpegleaaDoorSetNew
import Derived.Test.YtkfgpgllpegleaaDoorSetFree
namespace Go.Proofs.YtkfgpgllpegleaaDoor
open Go.RowKit
set_option linter.unusedVariables false

theorem alive2_first {r : Int} (h : RunIs 3 (fun _ => false) 1 r) : r = 0 :=
  h.unique (.inr ⟨0, rfl, ⟨by omega, fun _ _ _ => rfl⟩, fun j hj => absurd hj (by omega)⟩)
theorem alive2_second {r : Int} {S : Nat → Bool} (hS : ∀ j, S j = decide (j = 0)) (h : RunIs 3 S 1 r) : r = 1 :=
  h.unique (.inr ⟨1, rfl, ⟨by omega, fun j h1 h2 => by rw [hS]; simp; omega⟩, fun j hj q => by
    have := q.2 j (Nat.le_refl _) (by omega)
    rw [hS] at this
    simp at this
    omega⟩)
set_option maxHeartbeats 400000 in
theorem alive2 (w : World) : Calls Tryd.prog 5 #[] w fun e w' => e = .returned (.bool true) ∧ Below w.heap.size w w' := by
  go_enter Tryd.func5, Tryd.ntmps5
  go_wp2_with fail
  refine (new_in 3 _ (by omega) (by omega)).mono ?_
  rintro e w1 ⟨p, g, rfl, hs, hp, hg, hb⟩
  have HS := Lib.hid hs
  have HB := Lib.hid hb
  clear hs hb
  go_wp2_with fail
  refine (free_any _ HS.out).mono ?_
  rintro e w2 ⟨r, rfl, hr, rfl⟩
  obtain rfl := alive2_first hr
  clear hr
  go_wp2_with fail
  refine (add_any 0 _ HS.out).mono ?_
  rintro e w2 ⟨rfl, hs2, hg2⟩
  have HS2 := Lib.hid hs2
  have HB2 := Lib.hid (below_keeps HB.out (Keeps.of_grown hg2 (List.mem_singleton_self g)) HB.out.size (by intro k hk; cases List.mem_singleton.1 hk; exact hg))
  clear hs2 hg2
  have m0 : (mayB 3 0 && !false) = true := by decide
  rw [m0]
  go_wp2_with fail
  refine (has_in 0 _ HS2.out (by omega)).mono ?_
  rintro e w3 ⟨rfl, rfl⟩
  go_wp2_with fail
  refine (free_any _ HS2.out).mono ?_
  rintro e w3 ⟨r, rfl, hr, rfl⟩
  obtain rfl := alive2_second (fun j => by by_cases h : j = 0 <;> simp [h]) hr
  clear hr
  go_wp2
  go_ret
  exact ⟨rfl, HB2.out⟩
end Go.Proofs.YtkfgpgllpegleaaDoor

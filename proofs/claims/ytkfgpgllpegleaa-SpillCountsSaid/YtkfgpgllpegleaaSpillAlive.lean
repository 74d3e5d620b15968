/- The example of chapter 9 holds. -/
import Derived.Test.YtkfgpgllpegleaaSpillMore
namespace Go.Proofs.Ytkfgpgllpegleaa
open Go.RowKit Go.Maps
set_option linter.unusedVariables false

theorem below_two {B : Nat} {w w1 w2 : World} {e s : Nat} (hb : Below B w w1) (k : Keeps [e, s] w1 w2) (h1 : B ≤ w1.heap.size) (he : B ≤ e) (hs : B ≤ s) : Below B w w2 :=
  below_keeps hb k h1 (by intro x hx; simp at hx; rcases hx with rfl | rfl <;> assumption)
set_option maxRecDepth 100000 in
theorem alive9 (w : World) : Calls Try.prog 13 #[] w fun e w' => e = .returned (.bool true) ∧ Below w.heap.size w w' := by
  go_enter Try.func13, Try.ntmps13
  go_wp2_with fail
  refine (spillNew_any 10 _).mono ?_
  rintro en w1 ⟨p, e, s, rfl, hs, hp, he, hss, hb⟩
  have HS := Lib.hid hs
  have HB := Lib.hid hb
  clear hs hb hp
  go_wp2_with fail
  refine (up_any 5 0 _ HS.out (by decide) rfl (by omega) (by omega)).mono ?_
  rintro en w2 ⟨rfl, hs2, hk⟩
  have HS2 := Lib.hid hs2
  have HB2 := Lib.hid (below_two HB.out hk HB.out.size he hss)
  have r1 : ((upR (cutC 0) : Nat) : Int) = 1 := by decide
  rw [r1]
  clear hs2 hk r1
  go_wp2_with fail
  refine (total_any 5 1 _ HS2.out (by decide) (by decide)).mono ?_
  rintro en w3 ⟨rfl, k, rfl⟩
  have r2 : ((cutC 1 + upX (fun _ => 0) 5 (cutC 0) 5 : Nat) : Int) = 1 := by decide
  rw [r2]
  clear r2
  go_wp2_with fail
  refine (sticky_any 5 _ (HS2.out.drewN k) (by decide)).mono ?_
  rintro en w4 ⟨rfl, rfl⟩
  have r3 : upT (limC 10) (fun _ => 0) (fun _ => false) 5 (cutC 0) 5 = false := by decide
  rw [r3]
  clear r3
  go_wp2
  go_ret
  exact ⟨rfl, below_drewN HB2.out k⟩
end Go.Proofs.Ytkfgpgllpegleaa

/- bitset's Drop computes what it says. -/
import Derived.Test.YtfiddodlpppdhaaSet
namespace Go.Proofs.Ytfiddodlpppdhaa
open Go.RowKit
set_option linter.unusedVariables false

theorem drop_any {p g n : Nat} {S : Nat → Bool} (i : Int) (w : World) (h : SetAt w p g n S) :
    Calls Try.prog 68 #[.pointer (some ⟨p, 0, none⟩), .int .i64 i] w fun e w' => e = .returned (.bool (hasB n S i)) ∧ SetAt w' p g n (fun j => if (0 ≤ i ∧ i < n) ∧ j = i.toNat then false else S j) ∧ w.grownBy w' (some g) := by
  have C : Hid (Calls Try.prog 53 #[.pointer (some ⟨p, 0, none⟩), .int .i64 i, .bool true] w fun e w' => e = .returned (.bool (hasB n S i)) ∧ SetAt w' p g n (fun j => if (0 ≤ i ∧ i < n) ∧ j = i.toNat then false else S j) ∧ w.grownBy w' (some g)) := by
    refine (flip_any i true w h).mono fun e w' q => ⟨q.1.trans (ret_bool ?_), q.2.1.congr fun j _ => ?_, q.2.2⟩
    · unfold hasB mayB
      cases S i.toNat <;> rfl
    · unfold flipS
      by_cases h1 : 0 ≤ i ∧ i < n
      · by_cases h2 : j = i.toNat
        · subst h2
          cases hS : S i.toNat <;> simp [h1]
        · simp [h2]
      · simp [h1]
  clear h
  go_enter Try.func68, Try.ntmps68
  go_wp2_with fail
  refine C.out.mono ?_
  rintro e w' ⟨rfl, h1, h2⟩
  have H1 := Lib.hid h1
  have H2 := Lib.hid h2
  clear h1 h2
  go_wp2
  go_ret
  exact ⟨rfl, H1.out, H2.out⟩
end Go.Proofs.Ytfiddodlpppdhaa

/- The walk of the law HeaderLimits: it answers true for every input. -/
import Derived.Test.YtkfgpgllpegleaaHeaderWith
namespace Go.Proofs.Ytkfgpgllpegleaa
open Go.RowKit
set_option linter.unusedVariables false

theorem headerLimits.out (a0 : Int) (a1 : Bool) (w : World) (h : ¬ (0 ≤ a0 ∧ a0 ≤ 4)) :
    Calls Try.prog 11 #[.int .i64 a0, .bool a1] w fun e w' => e = .returned (.bool true) ∧ Below w.heap.size w w' := by
  go_enter Try.func11, Try.ntmps11
  go_wp2_with (go_at_call 31; refine (alive8 _).mono ?_; rintro e w' ⟨rfl, hb⟩)
  all_goals
    go_ret
    exact ⟨rfl, by assumption⟩
set_option maxRecDepth 100000 in
theorem headerLimits.is0l (w : World) :
    Calls Try.prog 11 #[.int .i64 0, .bool false] w fun e w' => e = .returned (.bool true) ∧ Below w.heap.size w w' := by
  have r1 : rightB (1) (0) (0) (0) (0) = true := by decide
  have r2 : rightB (0) (0) (0) (0) (0) = false := by decide
  go_enter Try.func11, Try.ntmps11
  go_wp2_with fail
  refine (alive8 _).mono ?_
  rintro e wa ⟨rfl, hba⟩
  have HBa := Lib.hid hba
  clear hba
  go_wp2_with fail
  generalize hW : (World.alloc _ _) = W1
  have HB1 : Hid (Below w.heap.size w W1) := (show Below w.heap.size w W1 by rw [← hW]; repeat (first | exact HBa.out | refine Below.alloc ?_ (by first | exact HBa.out.size | (simp; have := HBa.out.size; omega)) _))
  clear hW

  refine (with_at0 (1) _).mono ?_
  rintro e w1 ⟨rfl, hb1⟩
  have HB2 := Lib.hid (keepB hb1 HB1.out)
  clear hb1
  go_wp2_with fail
  refine (right_any (1) (0) (0) (0) (0) false false _).mono ?_
  rintro e w2 ⟨rfl, hb2⟩
  rw [r1]
  have HB3 := Lib.hid (keepB hb2 HB2.out)
  clear hb2
  go_wp2_with fail
  refine (with_at0 (0) _).mono ?_
  rintro e w3 ⟨rfl, hb3⟩
  have HB4 := Lib.hid (keepB hb3 HB3.out)
  clear hb3
  go_wp2_with fail
  refine (right_any (0) (0) (0) (0) (0) false false _).mono ?_
  rintro e w4 ⟨rfl, hb4⟩
  rw [r2]
  have HB5 := Lib.hid (keepB hb4 HB4.out)
  clear hb4
  go_wp2_with fail
  refine (with_at0 (0) _).mono ?_
  rintro e w5 ⟨rfl, hb5⟩
  have HB6 := Lib.hid (keepB hb5 HB5.out)
  clear hb5
  go_wp2_with fail
  refine (word_bad (0) (0) (0) (0) (0) false false r2 _).mono ?_
  rintro e w6 ⟨rfl, hb6⟩
  have HB7 := Lib.hid (keepB hb6 HB6.out)
  clear hb6
  go_wp2
  go_ret
  exact ⟨rfl, HB7.out⟩
set_option maxRecDepth 100000 in
theorem headerLimits.is0h (w : World) :
    Calls Try.prog 11 #[.int .i64 0, .bool true] w fun e w' => e = .returned (.bool true) ∧ Below w.heap.size w w' := by
  have r1 : rightB (8) (0) (0) (0) (0) = true := by decide
  have r2 : rightB (9) (0) (0) (0) (0) = false := by decide
  go_enter Try.func11, Try.ntmps11
  go_wp2_with fail
  refine (alive8 _).mono ?_
  rintro e wa ⟨rfl, hba⟩
  have HBa := Lib.hid hba
  clear hba
  go_wp2_with fail
  generalize hW : (World.alloc _ _) = W1
  have HB1 : Hid (Below w.heap.size w W1) := (show Below w.heap.size w W1 by rw [← hW]; repeat (first | exact HBa.out | refine Below.alloc ?_ (by first | exact HBa.out.size | (simp; have := HBa.out.size; omega)) _))
  clear hW

  refine (with_at0 (8) _).mono ?_
  rintro e w1 ⟨rfl, hb1⟩
  have HB2 := Lib.hid (keepB hb1 HB1.out)
  clear hb1
  go_wp2_with fail
  refine (right_any (8) (0) (0) (0) (0) false false _).mono ?_
  rintro e w2 ⟨rfl, hb2⟩
  rw [r1]
  have HB3 := Lib.hid (keepB hb2 HB2.out)
  clear hb2
  go_wp2_with fail
  refine (with_at0 (9) _).mono ?_
  rintro e w3 ⟨rfl, hb3⟩
  have HB4 := Lib.hid (keepB hb3 HB3.out)
  clear hb3
  go_wp2_with fail
  refine (right_any (9) (0) (0) (0) (0) false false _).mono ?_
  rintro e w4 ⟨rfl, hb4⟩
  rw [r2]
  have HB5 := Lib.hid (keepB hb4 HB4.out)
  clear hb4
  go_wp2_with fail
  refine (with_at0 (9) _).mono ?_
  rintro e w5 ⟨rfl, hb5⟩
  have HB6 := Lib.hid (keepB hb5 HB5.out)
  clear hb5
  go_wp2_with fail
  refine (word_bad (9) (0) (0) (0) (0) false false r2 _).mono ?_
  rintro e w6 ⟨rfl, hb6⟩
  have HB7 := Lib.hid (keepB hb6 HB6.out)
  clear hb6
  go_wp2
  go_ret
  exact ⟨rfl, HB7.out⟩
set_option maxRecDepth 100000 in
theorem headerLimits.is1l (w : World) :
    Calls Try.prog 11 #[.int .i64 1, .bool false] w fun e w' => e = .returned (.bool true) ∧ Below w.heap.size w w' := by
  have r1 : rightB (3) (0) (0) (0) (0) = true := by decide
  have r2 : rightB (3) (-1) (0) (0) (0) = false := by decide
  go_enter Try.func11, Try.ntmps11
  go_wp2_with fail
  refine (alive8 _).mono ?_
  rintro e wa ⟨rfl, hba⟩
  have HBa := Lib.hid hba
  clear hba
  go_wp2_with fail
  generalize hW : (World.alloc _ _) = W1
  have HB1 : Hid (Below w.heap.size w W1) := (show Below w.heap.size w W1 by rw [← hW]; repeat (first | exact HBa.out | refine Below.alloc ?_ (by first | exact HBa.out.size | (simp; have := HBa.out.size; omega)) _))
  clear hW

  refine (with_at1 (0) _).mono ?_
  rintro e w1 ⟨rfl, hb1⟩
  have HB2 := Lib.hid (keepB hb1 HB1.out)
  clear hb1
  go_wp2_with fail
  refine (right_any (3) (0) (0) (0) (0) false false _).mono ?_
  rintro e w2 ⟨rfl, hb2⟩
  rw [r1]
  have HB3 := Lib.hid (keepB hb2 HB2.out)
  clear hb2
  go_wp2_with fail
  refine (with_at1 (-1) _).mono ?_
  rintro e w3 ⟨rfl, hb3⟩
  have HB4 := Lib.hid (keepB hb3 HB3.out)
  clear hb3
  go_wp2_with fail
  refine (right_any (3) (-1) (0) (0) (0) false false _).mono ?_
  rintro e w4 ⟨rfl, hb4⟩
  rw [r2]
  have HB5 := Lib.hid (keepB hb4 HB4.out)
  clear hb4
  go_wp2_with fail
  refine (with_at1 (-1) _).mono ?_
  rintro e w5 ⟨rfl, hb5⟩
  have HB6 := Lib.hid (keepB hb5 HB5.out)
  clear hb5
  go_wp2_with fail
  refine (word_bad (3) (-1) (0) (0) (0) false false r2 _).mono ?_
  rintro e w6 ⟨rfl, hb6⟩
  have HB7 := Lib.hid (keepB hb6 HB6.out)
  clear hb6
  go_wp2
  go_ret
  exact ⟨rfl, HB7.out⟩
set_option maxRecDepth 100000 in
theorem headerLimits.is1h (w : World) :
    Calls Try.prog 11 #[.int .i64 1, .bool true] w fun e w' => e = .returned (.bool true) ∧ Below w.heap.size w w' := by
  have r1 : rightB (3) (4000) (0) (0) (0) = true := by decide
  have r2 : rightB (3) (4001) (0) (0) (0) = false := by decide
  go_enter Try.func11, Try.ntmps11
  go_wp2_with fail
  refine (alive8 _).mono ?_
  rintro e wa ⟨rfl, hba⟩
  have HBa := Lib.hid hba
  clear hba
  go_wp2_with fail
  generalize hW : (World.alloc _ _) = W1
  have HB1 : Hid (Below w.heap.size w W1) := (show Below w.heap.size w W1 by rw [← hW]; repeat (first | exact HBa.out | refine Below.alloc ?_ (by first | exact HBa.out.size | (simp; have := HBa.out.size; omega)) _))
  clear hW

  refine (with_at1 (4000) _).mono ?_
  rintro e w1 ⟨rfl, hb1⟩
  have HB2 := Lib.hid (keepB hb1 HB1.out)
  clear hb1
  go_wp2_with fail
  refine (right_any (3) (4000) (0) (0) (0) false false _).mono ?_
  rintro e w2 ⟨rfl, hb2⟩
  rw [r1]
  have HB3 := Lib.hid (keepB hb2 HB2.out)
  clear hb2
  go_wp2_with fail
  refine (with_at1 (4001) _).mono ?_
  rintro e w3 ⟨rfl, hb3⟩
  have HB4 := Lib.hid (keepB hb3 HB3.out)
  clear hb3
  go_wp2_with fail
  refine (right_any (3) (4001) (0) (0) (0) false false _).mono ?_
  rintro e w4 ⟨rfl, hb4⟩
  rw [r2]
  have HB5 := Lib.hid (keepB hb4 HB4.out)
  clear hb4
  go_wp2_with fail
  refine (with_at1 (4001) _).mono ?_
  rintro e w5 ⟨rfl, hb5⟩
  have HB6 := Lib.hid (keepB hb5 HB5.out)
  clear hb5
  go_wp2_with fail
  refine (word_bad (3) (4001) (0) (0) (0) false false r2 _).mono ?_
  rintro e w6 ⟨rfl, hb6⟩
  have HB7 := Lib.hid (keepB hb6 HB6.out)
  clear hb6
  go_wp2
  go_ret
  exact ⟨rfl, HB7.out⟩
set_option maxRecDepth 100000 in
theorem headerLimits.is2l (w : World) :
    Calls Try.prog 11 #[.int .i64 2, .bool false] w fun e w' => e = .returned (.bool true) ∧ Below w.heap.size w w' := by
  have r1 : rightB (3) (0) (0) (0) (0) = true := by decide
  have r2 : rightB (3) (0) (-1) (0) (0) = false := by decide
  go_enter Try.func11, Try.ntmps11
  go_wp2_with fail
  refine (alive8 _).mono ?_
  rintro e wa ⟨rfl, hba⟩
  have HBa := Lib.hid hba
  clear hba
  go_wp2_with fail
  generalize hW : (World.alloc _ _) = W1
  have HB1 : Hid (Below w.heap.size w W1) := (show Below w.heap.size w W1 by rw [← hW]; repeat (first | exact HBa.out | refine Below.alloc ?_ (by first | exact HBa.out.size | (simp; have := HBa.out.size; omega)) _))
  clear hW

  refine (with_at2 (0) _).mono ?_
  rintro e w1 ⟨rfl, hb1⟩
  have HB2 := Lib.hid (keepB hb1 HB1.out)
  clear hb1
  go_wp2_with fail
  refine (right_any (3) (0) (0) (0) (0) false false _).mono ?_
  rintro e w2 ⟨rfl, hb2⟩
  rw [r1]
  have HB3 := Lib.hid (keepB hb2 HB2.out)
  clear hb2
  go_wp2_with fail
  refine (with_at2 (-1) _).mono ?_
  rintro e w3 ⟨rfl, hb3⟩
  have HB4 := Lib.hid (keepB hb3 HB3.out)
  clear hb3
  go_wp2_with fail
  refine (right_any (3) (0) (-1) (0) (0) false false _).mono ?_
  rintro e w4 ⟨rfl, hb4⟩
  rw [r2]
  have HB5 := Lib.hid (keepB hb4 HB4.out)
  clear hb4
  go_wp2_with fail
  refine (with_at2 (-1) _).mono ?_
  rintro e w5 ⟨rfl, hb5⟩
  have HB6 := Lib.hid (keepB hb5 HB5.out)
  clear hb5
  go_wp2_with fail
  refine (word_bad (3) (0) (-1) (0) (0) false false r2 _).mono ?_
  rintro e w6 ⟨rfl, hb6⟩
  have HB7 := Lib.hid (keepB hb6 HB6.out)
  clear hb6
  go_wp2
  go_ret
  exact ⟨rfl, HB7.out⟩
set_option maxRecDepth 100000 in
theorem headerLimits.is2h (w : World) :
    Calls Try.prog 11 #[.int .i64 2, .bool true] w fun e w' => e = .returned (.bool true) ∧ Below w.heap.size w w' := by
  have r1 : rightB (3) (0) (4000) (0) (0) = true := by decide
  have r2 : rightB (3) (0) (4001) (0) (0) = false := by decide
  go_enter Try.func11, Try.ntmps11
  go_wp2_with fail
  refine (alive8 _).mono ?_
  rintro e wa ⟨rfl, hba⟩
  have HBa := Lib.hid hba
  clear hba
  go_wp2_with fail
  generalize hW : (World.alloc _ _) = W1
  have HB1 : Hid (Below w.heap.size w W1) := (show Below w.heap.size w W1 by rw [← hW]; repeat (first | exact HBa.out | refine Below.alloc ?_ (by first | exact HBa.out.size | (simp; have := HBa.out.size; omega)) _))
  clear hW

  refine (with_at2 (4000) _).mono ?_
  rintro e w1 ⟨rfl, hb1⟩
  have HB2 := Lib.hid (keepB hb1 HB1.out)
  clear hb1
  go_wp2_with fail
  refine (right_any (3) (0) (4000) (0) (0) false false _).mono ?_
  rintro e w2 ⟨rfl, hb2⟩
  rw [r1]
  have HB3 := Lib.hid (keepB hb2 HB2.out)
  clear hb2
  go_wp2_with fail
  refine (with_at2 (4001) _).mono ?_
  rintro e w3 ⟨rfl, hb3⟩
  have HB4 := Lib.hid (keepB hb3 HB3.out)
  clear hb3
  go_wp2_with fail
  refine (right_any (3) (0) (4001) (0) (0) false false _).mono ?_
  rintro e w4 ⟨rfl, hb4⟩
  rw [r2]
  have HB5 := Lib.hid (keepB hb4 HB4.out)
  clear hb4
  go_wp2_with fail
  refine (with_at2 (4001) _).mono ?_
  rintro e w5 ⟨rfl, hb5⟩
  have HB6 := Lib.hid (keepB hb5 HB5.out)
  clear hb5
  go_wp2_with fail
  refine (word_bad (3) (0) (4001) (0) (0) false false r2 _).mono ?_
  rintro e w6 ⟨rfl, hb6⟩
  have HB7 := Lib.hid (keepB hb6 HB6.out)
  clear hb6
  go_wp2
  go_ret
  exact ⟨rfl, HB7.out⟩
set_option maxRecDepth 100000 in
theorem headerLimits.is3l (w : World) :
    Calls Try.prog 11 #[.int .i64 3, .bool false] w fun e w' => e = .returned (.bool true) ∧ Below w.heap.size w w' := by
  have r1 : rightB (3) (0) (0) (0) (0) = true := by decide
  have r2 : rightB (3) (0) (0) (-1) (0) = false := by decide
  go_enter Try.func11, Try.ntmps11
  go_wp2_with fail
  refine (alive8 _).mono ?_
  rintro e wa ⟨rfl, hba⟩
  have HBa := Lib.hid hba
  clear hba
  go_wp2_with fail
  generalize hW : (World.alloc _ _) = W1
  have HB1 : Hid (Below w.heap.size w W1) := (show Below w.heap.size w W1 by rw [← hW]; repeat (first | exact HBa.out | refine Below.alloc ?_ (by first | exact HBa.out.size | (simp; have := HBa.out.size; omega)) _))
  clear hW

  refine (with_at3 (0) _).mono ?_
  rintro e w1 ⟨rfl, hb1⟩
  have HB2 := Lib.hid (keepB hb1 HB1.out)
  clear hb1
  go_wp2_with fail
  refine (right_any (3) (0) (0) (0) (0) false false _).mono ?_
  rintro e w2 ⟨rfl, hb2⟩
  rw [r1]
  have HB3 := Lib.hid (keepB hb2 HB2.out)
  clear hb2
  go_wp2_with fail
  refine (with_at3 (-1) _).mono ?_
  rintro e w3 ⟨rfl, hb3⟩
  have HB4 := Lib.hid (keepB hb3 HB3.out)
  clear hb3
  go_wp2_with fail
  refine (right_any (3) (0) (0) (-1) (0) false false _).mono ?_
  rintro e w4 ⟨rfl, hb4⟩
  rw [r2]
  have HB5 := Lib.hid (keepB hb4 HB4.out)
  clear hb4
  go_wp2_with fail
  refine (with_at3 (-1) _).mono ?_
  rintro e w5 ⟨rfl, hb5⟩
  have HB6 := Lib.hid (keepB hb5 HB5.out)
  clear hb5
  go_wp2_with fail
  refine (word_bad (3) (0) (0) (-1) (0) false false r2 _).mono ?_
  rintro e w6 ⟨rfl, hb6⟩
  have HB7 := Lib.hid (keepB hb6 HB6.out)
  clear hb6
  go_wp2
  go_ret
  exact ⟨rfl, HB7.out⟩
set_option maxRecDepth 100000 in
theorem headerLimits.is3h (w : World) :
    Calls Try.prog 11 #[.int .i64 3, .bool true] w fun e w' => e = .returned (.bool true) ∧ Below w.heap.size w w' := by
  have r1 : rightB (3) (0) (0) (255) (0) = true := by decide
  have r2 : rightB (3) (0) (0) (256) (0) = false := by decide
  go_enter Try.func11, Try.ntmps11
  go_wp2_with fail
  refine (alive8 _).mono ?_
  rintro e wa ⟨rfl, hba⟩
  have HBa := Lib.hid hba
  clear hba
  go_wp2_with fail
  generalize hW : (World.alloc _ _) = W1
  have HB1 : Hid (Below w.heap.size w W1) := (show Below w.heap.size w W1 by rw [← hW]; repeat (first | exact HBa.out | refine Below.alloc ?_ (by first | exact HBa.out.size | (simp; have := HBa.out.size; omega)) _))
  clear hW

  refine (with_at3 (255) _).mono ?_
  rintro e w1 ⟨rfl, hb1⟩
  have HB2 := Lib.hid (keepB hb1 HB1.out)
  clear hb1
  go_wp2_with fail
  refine (right_any (3) (0) (0) (255) (0) false false _).mono ?_
  rintro e w2 ⟨rfl, hb2⟩
  rw [r1]
  have HB3 := Lib.hid (keepB hb2 HB2.out)
  clear hb2
  go_wp2_with fail
  refine (with_at3 (256) _).mono ?_
  rintro e w3 ⟨rfl, hb3⟩
  have HB4 := Lib.hid (keepB hb3 HB3.out)
  clear hb3
  go_wp2_with fail
  refine (right_any (3) (0) (0) (256) (0) false false _).mono ?_
  rintro e w4 ⟨rfl, hb4⟩
  rw [r2]
  have HB5 := Lib.hid (keepB hb4 HB4.out)
  clear hb4
  go_wp2_with fail
  refine (with_at3 (256) _).mono ?_
  rintro e w5 ⟨rfl, hb5⟩
  have HB6 := Lib.hid (keepB hb5 HB5.out)
  clear hb5
  go_wp2_with fail
  refine (word_bad (3) (0) (0) (256) (0) false false r2 _).mono ?_
  rintro e w6 ⟨rfl, hb6⟩
  have HB7 := Lib.hid (keepB hb6 HB6.out)
  clear hb6
  go_wp2
  go_ret
  exact ⟨rfl, HB7.out⟩
set_option maxRecDepth 100000 in
theorem headerLimits.is4l (w : World) :
    Calls Try.prog 11 #[.int .i64 4, .bool false] w fun e w' => e = .returned (.bool true) ∧ Below w.heap.size w w' := by
  have r1 : rightB (3) (0) (0) (0) (0) = true := by decide
  have r2 : rightB (3) (0) (0) (0) (-1) = false := by decide
  go_enter Try.func11, Try.ntmps11
  go_wp2_with fail
  refine (alive8 _).mono ?_
  rintro e wa ⟨rfl, hba⟩
  have HBa := Lib.hid hba
  clear hba
  go_wp2_with fail
  generalize hW : (World.alloc _ _) = W1
  have HB1 : Hid (Below w.heap.size w W1) := (show Below w.heap.size w W1 by rw [← hW]; repeat (first | exact HBa.out | refine Below.alloc ?_ (by first | exact HBa.out.size | (simp; have := HBa.out.size; omega)) _))
  clear hW

  refine (with_at4 (0) _).mono ?_
  rintro e w1 ⟨rfl, hb1⟩
  have HB2 := Lib.hid (keepB hb1 HB1.out)
  clear hb1
  go_wp2_with fail
  refine (right_any (3) (0) (0) (0) (0) false false _).mono ?_
  rintro e w2 ⟨rfl, hb2⟩
  rw [r1]
  have HB3 := Lib.hid (keepB hb2 HB2.out)
  clear hb2
  go_wp2_with fail
  refine (with_at4 (-1) _).mono ?_
  rintro e w3 ⟨rfl, hb3⟩
  have HB4 := Lib.hid (keepB hb3 HB3.out)
  clear hb3
  go_wp2_with fail
  refine (right_any (3) (0) (0) (0) (-1) false false _).mono ?_
  rintro e w4 ⟨rfl, hb4⟩
  rw [r2]
  have HB5 := Lib.hid (keepB hb4 HB4.out)
  clear hb4
  go_wp2_with fail
  refine (with_at4 (-1) _).mono ?_
  rintro e w5 ⟨rfl, hb5⟩
  have HB6 := Lib.hid (keepB hb5 HB5.out)
  clear hb5
  go_wp2_with fail
  refine (word_bad (3) (0) (0) (0) (-1) false false r2 _).mono ?_
  rintro e w6 ⟨rfl, hb6⟩
  have HB7 := Lib.hid (keepB hb6 HB6.out)
  clear hb6
  go_wp2
  go_ret
  exact ⟨rfl, HB7.out⟩
set_option maxRecDepth 100000 in
theorem headerLimits.is4h (w : World) :
    Calls Try.prog 11 #[.int .i64 4, .bool true] w fun e w' => e = .returned (.bool true) ∧ Below w.heap.size w w' := by
  have r1 : rightB (3) (0) (0) (0) (3) = true := by decide
  have r2 : rightB (3) (0) (0) (0) (4) = false := by decide
  go_enter Try.func11, Try.ntmps11
  go_wp2_with fail
  refine (alive8 _).mono ?_
  rintro e wa ⟨rfl, hba⟩
  have HBa := Lib.hid hba
  clear hba
  go_wp2_with fail
  generalize hW : (World.alloc _ _) = W1
  have HB1 : Hid (Below w.heap.size w W1) := (show Below w.heap.size w W1 by rw [← hW]; repeat (first | exact HBa.out | refine Below.alloc ?_ (by first | exact HBa.out.size | (simp; have := HBa.out.size; omega)) _))
  clear hW

  refine (with_at4 (3) _).mono ?_
  rintro e w1 ⟨rfl, hb1⟩
  have HB2 := Lib.hid (keepB hb1 HB1.out)
  clear hb1
  go_wp2_with fail
  refine (right_any (3) (0) (0) (0) (3) false false _).mono ?_
  rintro e w2 ⟨rfl, hb2⟩
  rw [r1]
  have HB3 := Lib.hid (keepB hb2 HB2.out)
  clear hb2
  go_wp2_with fail
  refine (with_at4 (4) _).mono ?_
  rintro e w3 ⟨rfl, hb3⟩
  have HB4 := Lib.hid (keepB hb3 HB3.out)
  clear hb3
  go_wp2_with fail
  refine (right_any (3) (0) (0) (0) (4) false false _).mono ?_
  rintro e w4 ⟨rfl, hb4⟩
  rw [r2]
  have HB5 := Lib.hid (keepB hb4 HB4.out)
  clear hb4
  go_wp2_with fail
  refine (with_at4 (4) _).mono ?_
  rintro e w5 ⟨rfl, hb5⟩
  have HB6 := Lib.hid (keepB hb5 HB5.out)
  clear hb5
  go_wp2_with fail
  refine (word_bad (3) (0) (0) (0) (4) false false r2 _).mono ?_
  rintro e w6 ⟨rfl, hb6⟩
  have HB7 := Lib.hid (keepB hb6 HB6.out)
  clear hb6
  go_wp2
  go_ret
  exact ⟨rfl, HB7.out⟩
theorem headerLimits.walk (a0 : Int) (a1 : Bool) (w : World) (w0 : (Lit.int .i64 a0).wf = true) :
    Calls Try.prog 11 #[.int .i64 a0, .bool a1] w fun e w' => e = .returned (.bool true) ∧ Below w.heap.size w w' := by
  by_cases h : 0 ≤ a0 ∧ a0 ≤ 4
  · obtain rfl | rfl | rfl | rfl | rfl : a0 = 0 ∨ a0 = 1 ∨ a0 = 2 ∨ a0 = 3 ∨ a0 = 4 := by omega
    · cases a1
      · exact headerLimits.is0l w
      · exact headerLimits.is0h w
    · cases a1
      · exact headerLimits.is1l w
      · exact headerLimits.is1h w
    · cases a1
      · exact headerLimits.is2l w
      · exact headerLimits.is2h w
    · cases a1
      · exact headerLimits.is3l w
      · exact headerLimits.is3h w
    · cases a1
      · exact headerLimits.is4l w
      · exact headerLimits.is4h w
  · exact headerLimits.out a0 a1 w h
end Go.Proofs.Ytkfgpgllpegleaa


/- The walk of the law GuardTells: it answers true for every input. -/
import Derived.Test.YtahcepgcnpbkeaaGuardApartWalk
import Derived.Test.YtahcepgcnpbkeaaMem
namespace Go.Proofs.Ytahcepgcnpbkeaa
open Go.RowKit
set_option linter.unusedVariables false

theorem info24 : (Try.prog.info? 24).map (fun i => (i.zero, i.size, i.bytes)) = some (some (.int .u64 0), 1, 8) := by kernel_rfl

theorem guardTells.cn (a0 : Int) (a1 : Option Addr) (len1 cap1 : Nat) (z1 : Nat → Int) (w : World) (w1 : Ints .u64 w a1 len1 cap1 z1) (hl : len1 ≤ 100) :
    Calls Try.prog 3 #[.int .i64 a0, .slice a1 len1 cap1, .bool false] w fun e w' => e = .returned (.bool true) ∧ Below w.heap.size w w' := by
  obtain ⟨i0, hi, hz0, hz1, hz2⟩ := info_parts info24
  have hsrc := Lib.hid w1.src
  have W1 := Lib.hid w1
  have HI := Lib.hid hi
  have HZ0 := Lib.hid hz0
  have HZ1 := Lib.hid hz1
  have HZ2 := Lib.hid hz2
  have HL1 : Hid (0 + len1 ≤ maxLen) := (show 0 + len1 ≤ maxLen by unfold maxLen; omega)
  have HL2 : Hid ((0 + len1) * 8 ≤ 140737488355328) := (show (0 + len1) * 8 ≤ 140737488355328 by omega)
  clear w1 hi hz0 hz1 hz2
  go_enter Try.func3, Try.ntmps3
  go_wp2_with (first | (go_at_call 14; refine (alive5 _).mono ?_; rintro e w' ⟨rfl, rfl⟩) | (go_at_call 15; refine (canary_any _ _).mono ?_; rintro e w' ⟨rfl, rfl⟩) | (go_at_call 17; refine (poison_any _ _).mono ?_; rintro e w' ⟨rfl, rfl⟩) | (go_at_call 16; refine (canary_ref _ _).mono ?_; rintro e w' ⟨rfl, rfl⟩) | (go_at_call 18; refine (poison_ref _ _).mono ?_; rintro e w' ⟨rfl, rfl⟩) | (at_builtin; refine wpList_app (by rfl) (.const (.slice none 0 0)) (.tmp 30) 22 rfl w.heap.size 24 i0 (.int .u64 0) 1 8 Try.underlying22 HI.out HZ0.out HZ1.out HZ2.out rfl (by decide) (.slice none 0 0) 0 [] rfl (World.ownsRow_nil _ _ _ _) (.slice a1 len1 cap1) len1 _ rfl hsrc.out (oneInts _ _ _) HL1.out HL2.out (Nat.le_refl _) ?_))
  intro v' wn hown hgrow _

  have hb : Below w.heap.size w wn := (Below.refl _ _).grown hgrow (Nat.le_refl _) (fun k h => by cases h)
  obtain ⟨av, capv, rfl, hv⟩ := owns_ints hown W1.out.wf
  have HV := Lib.hid hv
  have HR := Lib.hid (W1.out.below hb)
  have HB := Lib.hid hb
  clear hv hown hgrow hb
  go_wp2_with (first | (go_at_call 19; refine (whole_cn _ _ _ _ _ _ HV.out).mono ?_; rintro e w' ⟨rfl, rfl⟩) | (go_at_call 20; refine (whole_ref_cn _ _ _ _ _ _ HR.out).mono ?_; rintro e w' ⟨rfl, rfl⟩))
  go_ret
  exact ⟨rfl, HB.out⟩
theorem guardTells.ps (a0 : Int) (a1 : Option Addr) (len1 cap1 : Nat) (z1 : Nat → Int) (w : World) (w1 : Ints .u64 w a1 len1 cap1 z1) (hl : len1 ≤ 100) :
    Calls Try.prog 3 #[.int .i64 a0, .slice a1 len1 cap1, .bool true] w fun e w' => e = .returned (.bool true) ∧ Below w.heap.size w w' := by
  obtain ⟨i0, hi, hz0, hz1, hz2⟩ := info_parts info24
  have hsrc := Lib.hid w1.src
  have W1 := Lib.hid w1
  have HI := Lib.hid hi
  have HZ0 := Lib.hid hz0
  have HZ1 := Lib.hid hz1
  have HZ2 := Lib.hid hz2
  have HL1 : Hid (0 + len1 ≤ maxLen) := (show 0 + len1 ≤ maxLen by unfold maxLen; omega)
  have HL2 : Hid ((0 + len1) * 8 ≤ 140737488355328) := (show (0 + len1) * 8 ≤ 140737488355328 by omega)
  clear w1 hi hz0 hz1 hz2
  go_enter Try.func3, Try.ntmps3
  go_wp2_with (first | (go_at_call 14; refine (alive5 _).mono ?_; rintro e w' ⟨rfl, rfl⟩) | (go_at_call 15; refine (canary_any _ _).mono ?_; rintro e w' ⟨rfl, rfl⟩) | (go_at_call 17; refine (poison_any _ _).mono ?_; rintro e w' ⟨rfl, rfl⟩) | (go_at_call 16; refine (canary_ref _ _).mono ?_; rintro e w' ⟨rfl, rfl⟩) | (go_at_call 18; refine (poison_ref _ _).mono ?_; rintro e w' ⟨rfl, rfl⟩) | (at_builtin; refine wpList_app (by rfl) (.const (.slice none 0 0)) (.tmp 30) 22 rfl w.heap.size 24 i0 (.int .u64 0) 1 8 Try.underlying22 HI.out HZ0.out HZ1.out HZ2.out rfl (by decide) (.slice none 0 0) 0 [] rfl (World.ownsRow_nil _ _ _ _) (.slice a1 len1 cap1) len1 _ rfl hsrc.out (oneInts _ _ _) HL1.out HL2.out (Nat.le_refl _) ?_))
  intro v' wn hown hgrow _

  have hb : Below w.heap.size w wn := (Below.refl _ _).grown hgrow (Nat.le_refl _) (fun k h => by cases h)
  obtain ⟨av, capv, rfl, hv⟩ := owns_ints hown W1.out.wf
  have HV := Lib.hid hv
  have HR := Lib.hid (W1.out.below hb)
  have HB := Lib.hid hb
  clear hv hown hgrow hb
  go_wp2_with (first | (go_at_call 19; refine (whole_ps _ _ _ _ _ _ HV.out).mono ?_; rintro e w' ⟨rfl, rfl⟩) | (go_at_call 20; refine (whole_ref_ps _ _ _ _ _ _ HR.out).mono ?_; rintro e w' ⟨rfl, rfl⟩))
  go_ret
  exact ⟨rfl, HB.out⟩
theorem guardTells.out (a0 : Int) (a1 : Option Addr) (len1 cap1 : Nat) (a2 : Bool) (w : World) (hl : 100 < len1) :
    Calls Try.prog 3 #[.int .i64 a0, .slice a1 len1 cap1, .bool a2] w fun e w' => e = .returned (.bool true) ∧ Below w.heap.size w w' := by
  go_enter Try.func3, Try.ntmps3
  go_wp2_with (first | (go_at_call 14; refine (alive5 _).mono ?_; rintro e w' ⟨rfl, rfl⟩))
  go_ret
  exact ⟨rfl, Below.refl _ _⟩
theorem guardTells.walk (a0 : Int) (a1 : Option Addr) (len1 cap1 : Nat) (z1 : Nat → Int) (a2 : Bool) (w : World) (w0 : (Lit.int .i64 a0).wf = true) (w1 : Ints .u64 w a1 len1 cap1 z1) :
    Calls Try.prog 3 #[.int .i64 a0, .slice a1 len1 cap1, .bool a2] w fun e w' => e = .returned (.bool true) ∧ Below w.heap.size w w' := by
  by_cases hl : len1 ≤ 100
  · cases a2
    · exact guardTells.cn a0 a1 len1 cap1 z1 w w1 hl
    · exact guardTells.ps a0 a1 len1 cap1 z1 w w1 hl
  · exact guardTells.out a0 a1 len1 cap1 a2 w (by omega)
end Go.Proofs.Ytahcepgcnpbkeaa

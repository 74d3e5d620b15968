/- The walk of the law GuardApart: it answers true for every two numbers. -/
import Derived.Test.YtahcepgcnpbkeaaGuard
namespace Go.Proofs.Ytahcepgcnpbkeaa
open Go.RowKit

theorem alive5 (w : World) : Calls Try.prog 14 #[] w fun e w' => e = .returned (.bool true) ∧ w = w' := by
  have h0 : wholeB cn 0 0 (fun _ => 0) = true := by simp [wholeB]
  have h1 : (cn 0 == 54324593428463829) = true := by decide +kernel
  have h2 : (ps 0 == 16045690675887209166) = true := by decide +kernel
  go_enter Try.func14, Try.ntmps14
  go_wp2_with (first | (go_at_call 15; refine (canary_any _ _).mono ?_; rintro e w' ⟨rfl, rfl⟩) | (go_at_call 17; refine (poison_any _ _).mono ?_; rintro e w' ⟨rfl, rfl⟩) | (go_at_call 19; refine (whole_cn none 0 0 (fun _ => 0) 0 _ (ints_nil _ _ _)).mono ?_; rintro e w' ⟨rfl, rfl⟩))
  go_ret
  exact ⟨rfl, rfl⟩

theorem guardApart.walk (a0 : Int) (a1 : Int) (w : World) (w0 : (Lit.int .i64 a0).wf = true) (w1 : (Lit.int .i64 a1).wf = true) :
    Calls Try.prog 5 #[.int .i64 a0, .int .i64 a1] w fun e w' => e = .returned (.bool true) ∧ Below w.heap.size w w' := by
  have b0 := bounds_i64 w0
  have b1 := bounds_i64 w1
  have hn : (cn a0 != ps a0) = true := by simpa using cn_ne_ps a0
  clear w0 w1
  by_cases h : a0 = a1
  · subst h
    go_enter Try.func5, Try.ntmps5
    go_wp2_with (first | (go_at_call 14; refine (alive5 _).mono ?_; rintro e w' ⟨rfl, rfl⟩) | (go_at_call 15; refine (canary_any _ _).mono ?_; rintro e w' ⟨rfl, rfl⟩) | (go_at_call 17; refine (poison_any _ _).mono ?_; rintro e w' ⟨rfl, rfl⟩))
    go_ret
    exact ⟨rfl, Below.refl _ _⟩
  · have h1 : (a0 == a1) = false := by simpa using h
    have h2 : (cn a0 == cn a1) = false := by simpa using fun e => h (cn_inj b0 b1 e)
    have h3 : (ps a0 == ps a1) = false := by simpa using fun e => h (ps_inj b0 b1 e)
    have H := Lib.hid h
    clear h
    go_enter Try.func5, Try.ntmps5
    go_wp2_with (first | (go_at_call 14; refine (alive5 _).mono ?_; rintro e w' ⟨rfl, rfl⟩) | (go_at_call 15; refine (canary_any _ _).mono ?_; rintro e w' ⟨rfl, rfl⟩) | (go_at_call 17; refine (poison_any _ _).mono ?_; rintro e w' ⟨rfl, rfl⟩))
    go_ret
    exact ⟨rfl, Below.refl _ _⟩
end Go.Proofs.Ytahcepgcnpbkeaa

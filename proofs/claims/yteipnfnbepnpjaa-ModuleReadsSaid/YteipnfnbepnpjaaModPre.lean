/- strings.HasPrefix of three bytes. -/
import Derived.Test.YteipnfnbepnpjaaModMany
import Derived.Laws.Strings
namespace Go.Proofs.Yteipnfnbepnpjaa
open Go.RowKit Go.Maps
set_option linter.unusedVariables false
theorem slite_any (x y z : Nat) (hx : x < 256) (hy : y < 256) (hz : z < 256) (w : World) : Calls Try.prog 61 #[.string (strOf [x, y, z]), .string ⟨#[68, 67, 49]⟩] w fun e w' => e = .returned (.bool (decide ([x, y, z] = [68, 67, 49]))) ∧ w = w' := by
  obtain ⟨S, hS⟩ : ∃ S, S = strOf [x, y, z] := ⟨_, rfl⟩
  have hsz : S.size = 3 := by rw [hS]; rfl
  have HS := Lib.hid hS
  rw [← hS]
  clear hS
  go_enter Try.func61, Try.ntmps61
  go_wp2
  have e : (S.extract 0 3).toList = [UInt8.ofNat x, UInt8.ofNat y, UInt8.ofNat z] := by
    rw [HS.out, ByteArray.toList_eq]
    rfl
  have e2 : ((S.extract 0 3).toList == [68, 67, 49]) = decide ([x, y, z] = [68, 67, 49]) := by
    rw [e, Bool.eq_iff_iff, beq_iff_eq, decide_eq_true_iff]
    have h1 : ∀ (a b : Nat), a < 256 → b < 256 → (UInt8.ofNat a = UInt8.ofNat b ↔ a = b) := fun a b ha hb => by
      constructor
      · intro h
        have := congrArg UInt8.toNat h
        rw [UInt8.toNat_ofNat', UInt8.toNat_ofNat'] at this
        omega
      · rintro rfl; rfl
    have hx' := h1 x 68 hx (by omega)
    have hy' := h1 y 67 hy (by omega)
    have hz' := h1 z 49 hz (by omega)
    simp only [List.cons.injEq, and_true]
    exact and_congr hx' (and_congr hy' hz')
  go_ret
  exact ⟨ret_bool2 e2, rfl⟩
theorem prefix_any (x y z : Nat) (hx : x < 256) (hy : y < 256) (hz : z < 256) (w : World) : Calls Try.prog 46 #[.string (strOf [x, y, z]), .string ⟨#[68, 67, 49]⟩] w fun e w' => e = .returned (.bool (decide ([x, y, z] = [68, 67, 49]))) ∧ w = w' := by
  have H := Lib.hid (slite_any x y z hx hy hz w)
  generalize strOf [x, y, z] = S at H ⊢
  generalize decide ([x, y, z] = [68, 67, 49]) = b at H ⊢
  go_enter Try.func46, Try.ntmps46
  go_wp2_with fail
  refine H.out.mono ?_
  rintro e w1 ⟨rfl, rfl⟩
  go_wp2
  go_ret
  exact ⟨rfl, rfl⟩
end Go.Proofs.Yteipnfnbepnpjaa

/- arena's Check, Live, Bad compute what they say; the reference's SameInts of rows that hold the same. -/
import Derived.Test.YtfiddodlpppdhaaAsSuch
namespace Go.Proofs.Ytfiddodlpppdhaa
open Go.RowKit Go.Maps
set_option linter.unusedVariables false
section
variable {w w' : World} {B : Nat → Prop} {pa K : Nat} {A : Ar}
theorem live_any (w : World) (h : ArS B w pa K A) (ok : ArOk A) (hK : K ≤ 1048576) :
    Calls Try.prog 16 #[.pointer (some ⟨pa, 0, none⟩)] w (RowDone w (natI (liveL A))) := by
  obtain ⟨I, own, hat, _, _⟩ := h
  have HS := Lib.hid (suchLive liveQ w hat ok hK fun x b wr hb hbw => (live1_at (x : Nat) b (I.blk x) wr ((hat.below hbw).bcells hb).2.2.1).mono (by
    rintro e w2 ⟨rfl, rfl⟩
    exact ⟨rfl, 0, rfl⟩))
  clear hat ok hK
  go_enter Try.func16, Try.ntmps16
  go_wp2_with fail
  refine HS.out.mono ?_
  rintro e w1 ⟨v, rfl, hr⟩
  have HR := Lib.hid hr
  obtain ⟨a, cap, rfl, _⟩ := hr.1.read
  clear hr
  go_wp2
  go_ret
  exact ⟨_, rfl, HR.out⟩
theorem check_any (w : World) (h : ArS B w pa K A) (ok : ArOk A) (hK : K ≤ 1048576) :
    Calls Try.prog 19 #[.pointer (some ⟨pa, 0, none⟩)] w (RowDone w (natI (checkL A))) := by
  obtain ⟨I, own, hat, _, _⟩ := h
  have HS := Lib.hid (suchCheck (smashQ A) w hat ok hK fun x b wr hb hbw => smashed_at x b wr (hat.below hbw) ok hb)
  clear hat ok hK
  go_enter Try.func19, Try.ntmps19
  go_wp2_with fail
  refine HS.out.mono ?_
  rintro e w1 ⟨v, rfl, hr⟩
  have HR := Lib.hid hr
  obtain ⟨a, cap, rfl, _⟩ := hr.1.read
  clear hr
  go_wp2
  go_ret
  exact ⟨_, rfl, HR.out⟩
theorem bad_any (w : World) (h : ArS B w pa K A) :
    Calls Try.prog 20 #[.pointer (some ⟨pa, 0, none⟩)] w fun e w' => e = .returned (.int .i64 (A.bad : Nat)) ∧ w = w' := by
  obtain ⟨I, own, hat, _, _⟩ := h
  obtain ⟨_, _, _, _, c9, _⟩ := hat.cells
  clear hat
  go_enter Try.func20, Try.ntmps20
  go_wp2
  go_ret
  exact ⟨rfl, rfl⟩
end
theorem sameInts_eq (l : List Int) (v1 v2 : Value) (w : World) (h1 : RowS w 1 v1 l.length (intC l)) (h2 : RowS w 1 v2 l.length (intC l)) (hl : l.length ≤ 1048576) :
    Calls Try.prog 21 #[v1, v2] w fun e w' => e = .returned (.bool true) ∧ ∃ k, w' = w.drewN k := by
  obtain ⟨a1, c1, rfl, p1, p2, _⟩ := h1.read
  obtain ⟨a2, c2, rfl, p3, p4, _⟩ := h2.read
  have H1 := Lib.hid h1
  have H2 := Lib.hid h2
  unfold maxLen at p2 p4
  clear h1 h2
  go_enter Try.func21, Try.ntmps21
  go_wp2
  go_loopw [5] (fun i wr => ∃ k m : Nat, i = .int .i64 k ∧ k ≤ l.length ∧ wr = w.drewN m) (fun i _ => l.length - (intOf i).toNat)
  case atStart => exact ⟨0, 0, rfl, Nat.zero_le _, rfl⟩
  case round =>
    obtain ⟨k, m, rfl, hk, rfl⟩ := hrel
    by_cases hlt : k < l.length
    · obtain ⟨g, off, rfl, _, c0⟩ := row_cell H1.out rfl hlt
      obtain ⟨g2, off2, rfl, _, d0⟩ := row_cell H2.out rfl hlt
      have hi0 : (0 : Int) ≤ (k : Int) := by omega
      have hi1 : (k : Int) < (l.length : Int) := by omega
      generalize hg l k = x at c0 d0
      go_wp2_with fail
      go_quiet (fail)
      go_wp2
      go_roundw
      case rel => first | exact ⟨k + 1, _, by go_num, by omega, World.drewN_drewN _ _ _⟩ | exact ⟨k + 1, _, by go_num, by omega, rfl⟩ | ((repeat apply Exists.intro); exact ⟨⟨k + 1, _, by go_num, by omega, rfl⟩, rfl⟩)
      case measure => simp [intOf]; omega
    · obtain rfl : k = l.length := by omega
      clear hlt
      go_wp2
      go_ret
      exact ⟨rfl, m, rfl⟩
end Go.Proofs.Ytfiddodlpppdhaa

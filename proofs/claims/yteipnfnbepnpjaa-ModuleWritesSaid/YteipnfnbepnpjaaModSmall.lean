/- the law's small answers something, and leaves all as it was. -/
import Derived.Test.YteipnfnbepnpjaaModModel
namespace Go.Proofs.Yteipnfnbepnpjaa
open Go.RowKit Go.Maps
set_option linter.unusedVariables false
/-- how small ends -/
def SmDone (w : World) (en : Ending) (w' : World) : Prop := (en = .returned (.bool true) ∨ en = .returned (.bool false)) ∧ Below w.heap.size w w'
section
variable {m : ModX} {a1 a2 a3 : Option Addr}
set_option maxRecDepth 100000 in
set_option maxHeartbeats 4000000 in
theorem small_any (w : World) (f : ModS w m a1 a2 a3) :
    Calls Try.prog 25 #[modXV m a1 a2 a3] w (SmDone w) := by
  have HM := Lib.hid (MxAt.made f 47)
  obtain ⟨gm, hgm⟩ : ∃ gm, gm = w.heap.size := ⟨_, rfl⟩
  obtain ⟨w1, hw1⟩ : ∃ w1, w1 = w.alloc (.cells #[.int .i64 m.G, .slice a1 m.n1 m.c1, .slice a2 m.n2 m.c2, .slice a3 m.n3 m.c3] 47) := ⟨_, rfl⟩
  have HW1 := Lib.hid hw1
  have HGM := Lib.hid hgm
  rw [← hgm, ← hw1] at HM
  have HT : Hid (SmDone w (.returned (.bool true)) w1) := (show SmDone w _ w1 from ⟨.inl rfl, HM.out.bel⟩)
  have HF : Hid (SmDone w (.returned (.bool false)) w1) := (show SmDone w _ w1 from ⟨.inr rfl, HM.out.bel⟩)
  have hx1 := f.c.max
  have hx2 := f.f.max
  have hx3 := f.k.max
  have hl1 := f.c.le
  have hl2 := f.f.le
  have hl3 := f.k.le
  obtain ⟨m0', m1', m2', m3'⟩ := And.intro HM.out.m0 (And.intro HM.out.m1 (And.intro HM.out.m2 HM.out.m3))
  clear f
  unfold modXV
  rcases (by omega : (300 : Int) < (m.n1 : Int) ∨ ¬ (300 : Int) < (m.n1 : Int)) with h1 | h1
  · rw [hw1, hgm] at m0' m1' m2' m3'
    clear hw1 hgm
    go_enter Try.func25, Try.ntmps25
    go_wp2
    rw [← HW1.out]
    go_ret
    exact HF.out
  · rcases (by omega : (200 : Int) < (m.n2 : Int) ∨ ¬ (200 : Int) < (m.n2 : Int)) with h2 | h2
    · rw [hw1, hgm] at m0' m1' m2' m3'
      clear hw1 hgm
      go_enter Try.func25, Try.ntmps25
      go_wp2
      rw [← HW1.out]
      go_ret
      exact HF.out
    · rcases (by omega : (200 : Int) < (m.n3 : Int) ∨ ¬ (200 : Int) < (m.n3 : Int)) with h3 | h3
      · rw [hw1, hgm] at m0' m1' m2' m3'
        clear hw1 hgm
        go_enter Try.func25, Try.ntmps25
        go_wp2
        rw [← HW1.out]
        go_ret
        exact HF.out
      · rw [hw1, hgm] at m0' m1' m2' m3'
        clear hw1 hgm
        go_enter Try.func25, Try.ntmps25
        go_wp2_with fail
        rw [← HW1.out, ← HGM.out]
        rw [← HW1.out, ← HGM.out] at m1' m2'
        go_loopw [3] (fun i wr => ∃ k : Nat, i = .int .i64 (k : Nat) ∧ k ≤ m.n1 ∧ w1 = wr) (fun i _ => m.n1 - (intOf i).toNat)
        case atStart => exact ⟨0, rfl, Nat.zero_le _, rfl⟩
        case round =>
          obtain ⟨k, rfl, hk, rfl⟩ := hrel
          by_cases hlt : k < m.n1
          · obtain ⟨g, off, rfl, hgl, e0, e1, e2⟩ := rows3 HM.out.f.c hlt
            replace e2 : w1.cell? ⟨g, off + k * 3 + 2, none⟩ = some (.string (m.s k)) := e2
            have hi0 : (0 : Int) ≤ (k : Int) := by omega
            have hi1 : (k : Int) < (m.n1 : Int) := by omega
            clear e0 e1
            rcases (by omega : (500 : Int) < ((m.s k).size : Int) ∨ ¬ (500 : Int) < ((m.s k).size : Int)) with hs | hs
            · go_wp2
              go_ret
              exact HF.out
            · go_wp2
              go_roundw
              case rel => first | exact ⟨k + 1, by go_num, by omega, rfl⟩ | exact ⟨k + 1, by go_num, by omega, trivial⟩ | ((repeat apply Exists.intro); exact ⟨⟨k + 1, by go_num, by omega, rfl⟩, rfl⟩)
              case measure => simp [intOf]; omega
          · obtain rfl : k = m.n1 := by omega
            clear hlt
            go_wp2_with fail
            go_loopw [4] (fun i wr => ∃ k : Nat, i = .int .i64 (k : Nat) ∧ k ≤ m.n2 ∧ w1 = wr) (fun i _ => m.n2 - (intOf i).toNat)
            case atStart => exact ⟨0, rfl, Nat.zero_le _, rfl⟩
            case round =>
              obtain ⟨k, rfl, hk2, rfl⟩ := hrel
              by_cases hlt : k < m.n2
              · obtain ⟨g, off, rfl, hgl, e0, e1, e2⟩ := rows3 HM.out.f.f hlt
                replace e2 : w1.cell? ⟨g, off + k * 3 + 2, none⟩ = some (.slice (m.ca k) (m.cl k) (m.cc k)) := e2
                have hi0 : (0 : Int) ≤ (k : Int) := by omega
                have hi1 : (k : Int) < (m.n2 : Int) := by omega
                clear e0 e1
                rcases (by omega : (5000 : Int) < ((m.cl k : Nat) : Int) ∨ ¬ (5000 : Int) < ((m.cl k : Nat) : Int)) with hs | hs
                · go_wp2
                  go_ret
                  exact HF.out
                · go_wp2
                  go_roundw
                  case rel => first | exact ⟨k + 1, by go_num, by omega, rfl⟩ | exact ⟨k + 1, by go_num, by omega, trivial⟩ | ((repeat apply Exists.intro); exact ⟨⟨k + 1, by go_num, by omega, rfl⟩, rfl⟩)
                  case measure => simp [intOf]; omega
              · obtain rfl : k = m.n2 := by omega
                clear hlt
                go_wp2
                go_ret
                exact HT.out
end
end Go.Proofs.Yteipnfnbepnpjaa

/- The laws' alive answers true; Alloc and Free as the laws call them. -/
import Derived.Test.YtfiddodlpppdhaaAsOne
import Derived.Test.YtfiddodlpppdhaaSizesRef
namespace Go.Proofs.Ytfiddodlpppdhaa
open Go.RowKit Go.Maps
set_option linter.unusedVariables false
theorem small_of {n : Nat} (h1 : 1 ≤ n) (h2 : n ≤ 31) : small5 (szI n) ∧ clsI n = clsN (szI n) ∧ n < szI n := by
  obtain ⟨h, h3, _, _, _, _, h4⟩ := sizeOk_of h1 (by omega)
  have := h4 h2
  rcases h with ⟨h5, h6⟩ | ⟨_, h5, _⟩
  · exact ⟨h5, h6, h3⟩
  · omega
section
variable {s n : Nat} {A A' : Ar}
/-- a new arena's first small block -/
theorem AllocR.firstSmall {N bud : Nat} {r : Option Nat} (h : AllocR n (newA N bud) r A') (h1 : 1 ≤ n) (h2 : n ≤ 31) (hN : 2 ≤ N) (hN2 : N ≤ 4096) : r = some 64 ∧ A'.N = N ∧ A'.bud = bud ∧ A'.L = [] ∧ Fine (· = szI n) A' ∧ liveB A' = updO (fun _ => none) 64 (some ⟨szI n, n, 1⟩) ∧ Dense A' := by
  obtain ⟨g1, g2, g3⟩ := small_of h1 h2
  have f : Fine (· = szI n) (newA N bud) := Fine.new ⟨by omega, hN2⟩
  obtain ⟨f', e1, e2, e3, e4⟩ := h.fine f h1 (by omega) rfl
  have hs0 : slot N (szI n) 64 := by
    have := slot_at (N := N) (i := 0) g1 (by
      have : 0 < 64 / szI n := by unfold small5 at g1; rcases g1 with g | g | g | g | g <;> rw [g] <;> decide
      exact Nat.mul_pos (by omega) this)
    simpa using this
  have hlive : ∀ x, liveB (newA N bud) x = none := fun x => rfl
  cases r with
  | none => exact absurd (hlive 64) (h.oneNone f g1 rfl g2 64 hs0)
  | some x =>
    obtain ⟨q1, q2, q3⟩ := e4 x rfl
    obtain ⟨p1, p2, p3⟩ := h.oneLeast f g1 rfl g2 rfl (fun p hp => absurd rfl hp)
    have hx : x = 64 := by
      have h1 := p1 64 hs0 rfl
      have h2 : liveB A' x = some ⟨szI n, n, 1⟩ := by rw [q2, updO_eq]
      have h3 := (f'.slotOf g1 (liveB_some.1 h2).1).1
      omega
    subst hx
    exact ⟨rfl, e1, e2, p3, f', q2, p2⟩
end
set_option maxRecDepth 100000 in
theorem alive_any (w : World) : Calls Try.prog 10 #[] w fun e w' => e = .returned (.bool true) ∧ Below w.heap.size w w' := by
  have HN := Lib.hid (arNew_at 4 0 w)
  have HNUM := Lib.hid (fun e w => num_any e w)
  go_enter Try.func10, Try.ntmps10
  go_wp2_with fail
  refine HN.out.mono ?_
  rintro e w1 ⟨pa, rfl, h1, ok1, hb1⟩
  have HA := Lib.hid (alloc_in 1 (by decide) (by decide) w1 h1 ok1 (by decide))
  have HB1 := Lib.hid hb1
  clear h1 ok1 hb1
  go_wp2_with fail
  refine HA.out.mono ?_
  rintro e w2 ⟨r, A2, rfl, hr, h2, ok2, hb2⟩
  obtain ⟨rfl, e1, _⟩ := hr.firstSmall (by decide) (by decide) (by decide) (by decide)
  have HW := Lib.hid (write_in 64 9 (by decide) w2 h2 ok2 (by rw [e1]; decide))
  have HRD : Hid (∀ w3, ArS (low w.heap.size) w3 pa (0 + 2 * (33 + szI 1 / 64)) { A2 with wd := fun i => if i = 64 then 9 else A2.wd i } → Calls Try.prog 17 #[.pointer (some ⟨pa, 0, none⟩), .int .i64 64] w3 (fun e w' => e = .returned (.tuple #[.int .u64 9, .int .i64 0]) ∧ w3 = w')) := Lib.hid (show ∀ w3, ArS (low w.heap.size) w3 pa (0 + 2 * (33 + szI 1 / 64)) { A2 with wd := fun i => if i = 64 then 9 else A2.wd i } → Calls Try.prog 17 #[.pointer (some ⟨pa, 0, none⟩), .int .i64 64] w3 (fun e w' => e = .returned (.tuple #[.int .u64 9, .int .i64 0]) ∧ w3 = w') from fun w3 h3 => by
    have := read_in 64 w3 h3 ⟨ok2.n, ok2.blk, ok2.free, ok2.line, ok2.nodup, ok2.tab, ok2.badn, ok2.runs⟩ (by show 64 < 64 * A2.N; rw [e1]; decide)
    exact this)
  have HB2 := Lib.hid hb2
  clear hr h2 ok2 hb2 e1
  dsimp only [alV]
  go_wp2_with fail
  refine HW.out.mono ?_
  rintro e w3 ⟨rfl, h3, hb3⟩
  have HR3 := Lib.hid (HRD.out w3 h3)
  have HB3 := Lib.hid hb3
  clear h3 hb3
  go_wp2_with fail
  refine HR3.out.mono ?_
  rintro e w4 ⟨rfl, rfl⟩
  go_wp2_with (first | (go_at_call 14; refine (HNUM.out _ _).mono ?_; rintro e w5 ⟨rfl, rfl⟩) | fail)
  go_ret
  exact ⟨rfl, (HB1.out.trans ((HB2.out.trans HB3.out).below fun g hg => hg))⟩
end Go.Proofs.Ytfiddodlpppdhaa

/- arena's Read, Write, Size, Bad compute what they say. -/
import Derived.Test.YtfiddodlpppdhaaAsFree
namespace Go.Proofs.Ytfiddodlpppdhaa
open Go.RowKit Go.Maps
set_option linter.unusedVariables false
section
variable {w w' : World} {B : Nat → Prop} {pa K : Nat} {A : Ar}
theorem ahas_in (x M g : Nat) (hx : x < M) (hM : M ≤ 262144) (w : World) (c0 : w.cell? ⟨pa, 0, none⟩ = some (.slice (some ⟨g, 0, none⟩) M M)) :
    Calls Try.prog 38 #[.pointer (some ⟨pa, 0, none⟩), .int .i64 (x : Nat)] w (fun e w' => e = .returned (.bool true) ∧ w = w') := by
  have h0 : (0 : Int) ≤ (x : Int) := by omega
  have h1 : (x : Int) < (M : Int) := by omega
  go_enter Try.func38, Try.ntmps38
  go_wp2
  go_ret
  exact ⟨rfl, rfl⟩
theorem ahas_out (x : Int) (M g : Nat) (hx : x < 0 ∨ (M : Int) ≤ x) (w : World) (c0 : w.cell? ⟨pa, 0, none⟩ = some (.slice (some ⟨g, 0, none⟩) M M)) :
    Calls Try.prog 38 #[.pointer (some ⟨pa, 0, none⟩), .int .i64 x] w (fun e w' => e = .returned (.bool false) ∧ w = w') := by
  by_cases h0 : x < 0
  · have h1 : ¬ (0 ≤ x) := by omega
    go_enter Try.func38, Try.ntmps38
    go_wp2
    go_ret
    exact ⟨rfl, rfl⟩
  · have h1 : 0 ≤ x := by omega
    have h2 : ¬ (x < (M : Int)) := by omega
    go_enter Try.func38, Try.ntmps38
    go_wp2
    go_ret
    exact ⟨rfl, rfl⟩
theorem read_in (x : Nat) (w : World) (h : ArS B w pa K A) (ok : ArOk A) (hx : x < 64 * A.N) :
    Calls Try.prog 17 #[.pointer (some ⟨pa, 0, none⟩), .int .i64 (x : Nat)] w (fun e w' => e = .returned (.tuple #[.int .u64 (A.wd x), .int .i64 0]) ∧ w = w') := by
  obtain ⟨I, own, hat, hown, hBs⟩ := h
  have hN := ok.n
  obtain ⟨M, hM⟩ : ∃ M, M = 64 * A.N := ⟨_, rfl⟩
  obtain ⟨c0, _⟩ := hat.cells
  obtain ⟨e1, _⟩ := hat.word hx
  rw [← hM] at c0 hx
  have HH := Lib.hid (fun w c => ahas_in (pa := pa) x M I.gw hx (by omega) w c)
  have h0 : (0 : Int) ≤ (x : Int) := by omega
  have h1 : (x : Int) < (M : Int) := by omega
  clear hat hown hBs ok hN hM
  go_enter Try.func17, Try.ntmps17
  go_wp2_with fail
  refine (HH.out _ c0).mono ?_
  rintro e w1 ⟨rfl, rfl⟩
  go_wp2
  go_ret2
  exact ⟨rfl, rfl⟩
theorem write_in (x : Nat) (v : Int) (hv : (Lit.int .u64 v).wf = true) (w : World) (h : ArS B w pa K A) (ok : ArOk A) (hx : x < 64 * A.N) :
    Calls Try.prog 18 #[.pointer (some ⟨pa, 0, none⟩), .int .i64 (x : Nat), .int .u64 v] w (fun e w' => e = .returned (.int .i64 0) ∧ ArS B w' pa K { A with wd := fun i => if i = x then v else A.wd i } ∧ Bel B w w') := by
  obtain ⟨I, own, hat, hown, hBs⟩ := h
  have hN := ok.n
  obtain ⟨M, hM⟩ : ∃ M, M = 64 * A.N := ⟨_, rfl⟩
  obtain ⟨c0, _⟩ := hat.cells
  have e9 := hat.word hx
  obtain ⟨v0, e1, e2⟩ : ∃ v0, w.cell? ⟨I.gw, x, none⟩ = some v0 ∧ w.frozen? ⟨I.gw, x, none⟩ = false := ⟨_, e9⟩
  have HF := Lib.hid (show ArS B (w.setCell ⟨I.gw, x, none⟩ (.int .u64 v)) pa K { A with wd := fun i => if i = x then v else A.wd i } ∧ Bel B w (w.setCell ⟨I.gw, x, none⟩ (.int .u64 v)) from by
    have k1 := keeps_set w I.gw x (.int .u64 v)
    exact ⟨⟨I, own, hat.setWd x v hv, hown, Fits.le hBs k1.size⟩, keeps_below k1 hown hBs fun g hg => by simp at hg; rw [hg, hat.tgw]; decide⟩)
  rw [← hM] at c0 hx
  have HH := Lib.hid (fun w c => ahas_in (pa := pa) x M I.gw hx (by omega) w c)
  have h0 : (0 : Int) ≤ (x : Int) := by omega
  have h1 : (x : Int) < (M : Int) := by omega
  clear hat hown hBs ok hN hM e9 hv
  go_enter Try.func18, Try.ntmps18
  go_wp2_with fail
  refine (HH.out _ c0).mono ?_
  rintro e w1 ⟨rfl, rfl⟩
  go_wp2
  go_ret
  exact ⟨rfl, HF.out.1, HF.out.2⟩
/-- Size of a number where no block in use begins -/
theorem size_no (x : Int) (hxw : (Lit.int .i64 x).wf = true) (w : World) (h : ArS B w pa K A) (hno : ∀ (n : Nat) (b : BlkT), x = (n : Int) → A.B n = some b → b.st ≠ 1) :
    Calls Try.prog 22 #[.pointer (some ⟨pa, 0, none⟩), .int .i64 x] w (fun en w' => en = .returned (.tuple #[.int .i64 0, .int .i64 3]) ∧ ∃ k, w' = w.drewN k) := by
  obtain ⟨I, own, hat, hown, hBs⟩ := h
  have HU : Hid (Calls Try.prog 32 #[.pointer (some ⟨pa, 0, none⟩), .int .i64 x] w fun e w' => ∃ v, e = .returned (.tuple #[v, .bool false]) ∧ ∃ k, w' = w.drewN k) := Lib.hid (by
    refine (used_at x w hat hxw).mono ?_
    rintro e w1 ⟨hk, ⟨m, d, e1, e2, rfl⟩ | ⟨_, rfl⟩⟩
    · have := hno m d e1 e2
      have hb : ((d.st : Int) == 1) = false := by rw [beq_eq_false_iff_ne]; omega
      rw [hb]
      exact ⟨_, rfl, hk⟩
    · exact ⟨_, rfl, hk⟩)
  clear hat hown hBs hno hxw
  go_enter Try.func22, Try.ntmps22
  go_wp2_with fail
  refine HU.out.mono ?_
  rintro e w1 ⟨v, rfl, k1, rfl⟩
  go_wp2
  go_ret2
  exact ⟨rfl, _, rfl⟩
end
theorem num_any (e : Int) (w : World) : Calls Try.prog 14 #[.int .i64 e] w fun en w' => en = .returned (.int .i64 e) ∧ w = w' := by
  go_enter Try.func14, Try.ntmps14
  go_wp2
  go_ret
  exact ⟨rfl, rfl⟩
end Go.Proofs.Ytfiddodlpppdhaa

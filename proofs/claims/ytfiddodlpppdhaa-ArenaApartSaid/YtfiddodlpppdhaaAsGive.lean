/- A block's words as Alloc and Free lay them, in memory. -/
import Derived.Test.YtfiddodlpppdhaaAsOpen
namespace Go.Proofs.Ytfiddodlpppdhaa
open Go.RowKit Go.Maps
set_option linter.unusedVariables false
/-- some words of the arena cleared -/
def zerosW (wd : Nat → Int) (x n : Nat) : Nat → Int := fun i => if x ≤ i ∧ i < x + n then 0 else wd i
/-- some words laid, by a rule -/
def laysW (wd : Nat → Int) (f : Int → Int) (x j : Nat) : Nat → Int := fun i => if x ≤ i ∧ i < x + j then f ((i : Nat) : Int) else wd i
theorem laysW_zero (wd : Nat → Int) (f : Int → Int) (x : Nat) : laysW wd f x 0 = wd := by
  funext i; unfold laysW; rw [if_neg (by omega)]
theorem laysW_succ (wd : Nat → Int) (f : Int → Int) (x j : Nat) : (fun i => if i = x + j then f ((x + j : Nat) : Int) else laysW wd f x j i) = laysW wd f x (j + 1) := by
  funext i
  unfold laysW
  by_cases h : i = x + j
  · subst h; rw [if_pos rfl, if_pos (by omega)]
  · rw [if_neg h]
    by_cases h1 : x ≤ i ∧ i < x + j
    · rw [if_pos h1, if_pos (by omega)]
    · rw [if_neg h1, if_neg (by omega)]
theorem giveA_eq (A : Ar) (x n s : Nat) (hn : n ≤ s) : giveA A x n s = { A with B := updO A.B x (some ⟨s, n, 1⟩), wd := laysW (zerosW A.wd x n) cn (x + n) (s - n) } := by
  unfold giveA
  congr 1
  funext i
  unfold laysW zerosW
  by_cases h1 : x ≤ i ∧ i < x + n
  · rw [if_pos h1, if_neg (by omega), if_pos h1]
  · rw [if_neg h1]
    by_cases h2 : x + n ≤ i ∧ i < x + s
    · rw [if_pos h2, if_pos (by omega)]
    · rw [if_neg h2, if_neg (by omega), if_neg h1]
theorem cn_wf (i : Int) : (Lit.int .u64 (cn i)).wf = true := by
  obtain ⟨x, hx, h1, h2, h3⟩ := cn_nat i
  rw [h2]
  have : x ^^^ 54324593428463829 < 18446744073709551616 := by
    have := Nat.xor_lt_two_pow (x := x) (y := 54324593428463829) (n := 64) (by omega) (by decide)
    omega
  exact WalkArith.wf_u64 (by omega)
theorem ps_wf (i : Int) : (Lit.int .u64 (ps i)).wf = true := by
  obtain ⟨x, hx, h1, h2, h3⟩ := cn_nat i
  rw [h3]
  have : x ^^^ 16045690675887209166 < 18446744073709551616 := by
    have := Nat.xor_lt_two_pow (x := x) (y := 16045690675887209166) (n := 64) (by omega) (by decide)
    omega
  exact WalkArith.wf_u64 (by omega)
section
variable {w w' : World} {pa K : Nat} {I : ArIds} {own : Nat → Nat} {A : Ar}
theorem ArAt.word (h : ArAt w pa I own K A) {i : Nat} (hi : i < 64 * A.N) : w.cell? ⟨I.gw, i, none⟩ = some (.int .u64 (A.wd i)) ∧ w.frozen? ⟨I.gw, i, none⟩ = false := by
  obtain ⟨cs, h1, h2, h3⟩ := h.words
  exact ⟨by rw [cell_of_block h1, h3 i hi], free_of_block h1⟩
/-- words cleared -/
theorem ArAt.clearWd (h : ArAt w pa I own K A) (x n : Nat) (hx : x + n ≤ 64 * A.N) : ArAt (w.setCells I.gw x (List.replicate n (.int .u64 0))) pa I own K { A with wd := zerosW A.wd x n } := by
  have r := h.rest (Keeps.of_grown (setCells_grown I.gw (List.replicate n (.int .u64 0)) x w) (l := [I.gw]) (by simp)) (fun t => t ≠ 2) (fun y hy => .inr (by simp at hy; subst hy; simp [h.tgw]))
  refine ⟨r.head (by decide), ?_, fun i => ?_, r.tab (by decide), r.line (by decide), r.map (by decide), fun x b hb => r.blks x b hb (by omega), fun c hc => r.row c hc (by omega), h.tpa, h.tgw, h.ttab, h.tline, h.tmap, h.trow, h.tblk⟩
  · obtain ⟨cs, h1, h2, h3⟩ := h.words
    obtain ⟨cs', e1, e2, e3, e4⟩ := setCells_block (List.replicate n (.int .u64 0)) x w cs h1 (by simp; omega)
    refine ⟨cs', e1, by rw [e2]; exact h2, fun i hi => ?_⟩
    have hi : i < 64 * A.N := hi
    show cs'[i]? = some (.int .u64 (zerosW A.wd x n i))
    unfold zerosW
    by_cases hin : x ≤ i ∧ i < x + n
    · rw [if_pos hin]
      have := e4 (i - x) (.int .u64 0) (by rw [List.getElem?_replicate, if_pos (by omega)])
      rw [show x + (i - x) = i by omega] at this
      exact this
    · rw [if_neg hin, e3 i (by rw [List.length_replicate]; omega), h3 i hi]
  · show (Lit.int .u64 (zerosW A.wd x n i)).wf = true
    unfold zerosW
    split
    · decide
    · exact h.wwf i
end
end Go.Proofs.Ytfiddodlpppdhaa

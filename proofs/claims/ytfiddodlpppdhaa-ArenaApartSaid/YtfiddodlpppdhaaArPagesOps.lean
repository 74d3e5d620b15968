/- pages' Take, Give, Of and Free compute what they say. -/
import Derived.Test.YtfiddodlpppdhaaArPages
namespace Go.Proofs.Ytfiddodlpppdhaa
open Go.RowKit Go.Maps
set_option linter.unusedVariables false

/-- with which run a page was taken; nothing: 0, 0, 0 -/
def ofT (T : Nat → Option RunT) (x : Int) : RunT := if 0 ≤ x then (T x.toNat).getD (0, 0, 0) else (0, 0, 0)
theorem mapT_getD (T : Nat → Option RunT) (x : Int) : (mapT T x).getD (.agg #[.int .i64 0, .int .i64 0, .int .i64 0]) = runV (ofT T x) := by
  unfold mapT ofT
  split
  · cases T x.toNat <;> rfl
  · rfl
section
variable {p s g m n c : Nat} {T : Nat → Option RunT}
/-- some pages more are taken -/
def putT (T : Nat → Option RunT) (r K : Nat) (mk : Int) (j : Nat) : Nat → Option RunT := fun i => if r ≤ i ∧ i < r + j then some (r, K, mk) else T i
theorem putT_zero (r K : Nat) (mk : Int) : putT T r K mk 0 = T := by
  funext i
  unfold putT
  rw [if_neg (by omega)]
/-- where Take stands -/
structure PutAt (w : World) (p s g m n c : Nat) (T : Nat → Option RunT) (r K : Nat) (mk : Int) (j : Nat) (wr : World) : Prop where
  head : ∃ ty, wr.heap[p]? = some (.cells #[.int .i64 (n : Nat), .pointer (some ⟨s, 0, none⟩), .map (some m)] ty (0, 0))
  set : SetAt wr s g n (usedB (putT T r K mk j))
  runs : MapAt Try.prog wr 3 m (c + j) (mapT (putT T r K mk j))
  keep : Keeps [g, m] w wr
theorem PagesAt.put {w : World} (h : PagesAt w p s g m n c T) (r K : Nat) (mk : Int) : PutAt w p s g m n c T r K mk 0 w :=
  ⟨h.head, by rw [putT_zero]; exact h.set, by rw [putT_zero]; exact h.runs, Keeps.refl _ _⟩
theorem PutAt.done {w w' : World} {r K : Nat} {mk : Int} (h : PagesAt w p s g m n c T) (h' : PutAt w p s g m n c T r K mk K w') (hr : runP n (usedB T) K r) (hK : 1 ≤ K) : PagesAt w' p s g m n (c + K) (putT T r K mk K) := by
  have h1 : 1 ≤ r := by
    rcases Nat.eq_zero_or_pos r with rfl | q
    · have := hr.2 0 (Nat.le_refl _) (by omega)
      simp [usedB] at this
    · exact q
  refine ⟨h'.head, h'.set, h'.runs, h.ne, h.size, fun i a k mk' hi => ?_⟩
  unfold putT at hi
  split at hi
  · next hin =>
    cases hi
    exact ⟨h1, hin.1, hin.2, hr.1, fun j h1 h2 => by unfold putT; rw [if_pos ⟨h1, h2⟩]⟩
  · next hout =>
    obtain ⟨q1, q2, q3, q4, q5⟩ := h.ok i a k mk' hi
    refine ⟨q1, q2, q3, q4, fun j j1 j2 => ?_⟩
    unfold putT
    rw [if_neg ?_]
    · exact q5 j j1 j2
    · rintro ⟨z1, z2⟩
      have := hr.2 j z1 z2
      unfold usedB at this
      rw [q5 j j1 j2] at this
      simp at this
theorem PutAt.step {w wr w1 w2 : World} {r K j : Nat} {mk : Int} (h : PutAt w p s g m n c T r K mk j wr) (ne : p ≠ s ∧ p ≠ g ∧ p ≠ m ∧ s ≠ m ∧ g ≠ m) (hj : r + j < n) (hgs : s ≠ g)
    (h1 : SetAt w1 s g n (fun i => if ((0 : Int) ≤ ((r + j : Nat) : Int) ∧ ((r + j : Nat) : Int) < (n : Int)) ∧ i = ((r + j : Nat) : Int).toNat then true else usedB (putT T r K mk j) i)) (g1 : wr.grownBy w1 (some g))
    (h2 : MapAt Try.prog w2 3 m (c + j + 1) (fun y => if y = ((r + j : Nat) : Int) then some (runV (r, K, mk)) else mapT (putT T r K mk j) y)) (g2 : w1.grownBy w2 (some m)) : PutAt w p s g m n c T r K mk (j + 1) w2 := by
  have k1 : Keeps [g] wr w1 := Keeps.of_grown g1 (by simp)
  have k2 : Keeps [m] w1 w2 := Keeps.of_grown g2 (by simp)
  obtain ⟨ty, hh⟩ := h.head
  have e : ∀ i, (putT T r K mk (j + 1)) i = if i = r + j then some (r, K, mk) else putT T r K mk j i := fun i => by
    unfold putT
    by_cases h0 : i = r + j
    · rw [if_pos (by omega), if_pos h0]
    · rw [if_neg h0]
      by_cases h1 : r ≤ i ∧ i < r + j
      · rw [if_pos (by omega), if_pos h1]
      · rw [if_neg (by omega), if_neg h1]
  refine ⟨⟨ty, k2.at (k1.at hh (by simp; omega)) (by simp; omega)⟩, ?_, ?_, ?_⟩
  · refine (h1.keeps k2 (by simp; omega) (by simp; omega)).congr fun i hi => ?_
    unfold usedB
    rw [e i]
    by_cases h0 : i = r + j
    · rw [if_pos ⟨⟨by omega, by omega⟩, by omega⟩, if_pos h0]; simp
    · rw [if_neg (by omega), if_neg h0]
  · refine h2.congr fun x hx => ?_
    unfold mapT
    by_cases h0 : 0 ≤ x
    · rw [if_pos h0, if_pos h0, e]
      by_cases h3 : x = ((r + j : Nat) : Int)
      · rw [if_pos h3, if_pos (by omega)]; rfl
      · rw [if_neg h3, if_neg (by omega)]
    · rw [if_neg h0, if_neg h0, if_neg (by omega)]
  · exact (h.keep.trans (k1.mono (by simp))).trans (k2.mono (by simp))
/-- what Take does -/
def TakeDone (p s g m n c : Nat) (T : Nat → Option RunT) (K : Nat) (mk : Int) (w : World) (en : Ending) (w' : World) : Prop :=
  (en = .returned (.int .i64 (-1)) ∧ RunIs n (usedB T) K (-1) ∧ w = w') ∨
  ∃ r : Nat, en = .returned (.int .i64 (r : Nat)) ∧ RunIs n (usedB T) K (r : Int) ∧ PagesAt w' p s g m n (c + K) (putT T r K mk K) ∧ Keeps [g, m] w w'
end
end Go.Proofs.Ytfiddodlpppdhaa

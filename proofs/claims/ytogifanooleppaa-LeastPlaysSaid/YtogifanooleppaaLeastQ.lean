/- least's Heap, as a set, and which blocks it owns. -/
import Derived.Test.YtogifanooleppaaLeastList
namespace Go.Proofs.Ytogifanooleppaa
open Go.RowKit Go.Maps
set_option linter.unusedVariables false

/-- block p is a Heap that holds the numbers of T; m is its map's block, q its row's -/
def LsQ (w : World) (p m : Nat) (q : Option Nat) (N : Nat) (T : Int → Bool) : Prop :=
  ∃ c l M, LeastAt w p m c q l M ∧ c ≤ N ∧ l.length ≤ N ∧ ∀ y, M y = some true ↔ T y = true
/-- the blocks that it owns -/
abbrev ownL (p m : Nat) (q : Option Nat) : List Nat := p :: m :: q.toList
section
variable {p m N : Nat} {q : Option Nat} {T : Int → Bool} {w w' : World}
theorem LsQ.keeps {L : List Nat} (h : LsQ w p m q N T) (k : Keeps L w w') (hn : ∀ x ∈ ownL p m q, x ∉ L) : LsQ w' p m q N T := by
  obtain ⟨c, l, M, h1, h2⟩ := h
  exact ⟨c, l, M, h1.keeps k (hn p (by simp)) (hn m (by simp)) (fun g hg => hn g (by simp [hg])), h2⟩
theorem LsQ.below (h : LsQ w p m q N T) (hb : Below w.heap.size w w') : LsQ w' p m q N T :=
  h.keeps (Keeps.of_below hb (Nat.le_refl _) []) fun _ _ => List.not_mem_nil
theorem LsQ.lt (h : LsQ w p m q N T) : ∀ x ∈ ownL p m q, x < w.heap.size := by
  obtain ⟨c, l, M, h1, h2⟩ := h
  obtain ⟨l1, l2, l3⟩ := h1.lt
  intro x hx
  simp at hx
  rcases hx with rfl | rfl | hx
  · exact l1
  · exact l2
  · exact l3 x hx
theorem LsQ.congr {T' : Int → Bool} (h : LsQ w p m q N T) (ht : ∀ y, T y = T' y) : LsQ w p m q N T' := by
  obtain ⟨c, l, M, h1, h2, h3, h4⟩ := h
  exact ⟨c, l, M, h1, h2, h3, fun y => by rw [← ht y]; exact h4 y⟩
theorem LsQ.mono (h : LsQ w p m q N T) {N' : Nat} (hn : N ≤ N') : LsQ w p m q N' T := by
  obtain ⟨c, l, M, h1, h2, h3, h4⟩ := h
  exact ⟨c, l, M, h1, by omega, by omega, h4⟩
theorem LsQ.wf (h : LsQ w p m q N T) {y : Int} (hy : T y = true) : (Lit.int .i64 y).wf = true := by
  obtain ⟨c, l, M, h1, h2, h3, h4⟩ := h
  exact h1.wfl y ((h1.dom y).2 (by rw [(h4 y).2 hy]; simp))
theorem qNew (w : World) : Calls Try.prog 20 #[] w fun e w' => ∃ p m, e = .returned (.pointer (some ⟨p, 0, none⟩)) ∧ LsQ w' p m none 0 (fun _ => false) ∧ (w.heap.size ≤ p ∧ w.heap.size ≤ m) ∧ Below w.heap.size w w' := by
  refine (lsNew_any w).mono ?_
  rintro e w' ⟨p, m, rfl, h, h1, hb⟩
  exact ⟨p, m, rfl, ⟨0, [], _, h, Nat.le_refl _, Nat.le_refl _, fun y => by simp⟩, h1, hb⟩
theorem qHas (x : Int) (w : World) (h : LsQ w p m q N T) (hx : (Lit.int .i64 x).wf = true) :
    Calls Try.prog 21 #[.pointer (some ⟨p, 0, none⟩), .int .i64 x] w fun e w' => e = .returned (.bool (T x)) ∧ w = w' := by
  obtain ⟨c, l, M, h1, h2, h3, h4⟩ := h
  rw [← getD_T h4 x]
  exact lsHas_any x w h1 hx
/-- what a call leaves: a Heap at the same places, but for its row -/
def QDone (w : World) (p m : Nat) (q : Option Nat) (N : Nat) (T : Int → Bool) (w' : World) : Prop :=
  ∃ q', LsQ w' p m q' N T ∧ (∀ g, q' = some g → q = some g ∨ w.heap.size ≤ g) ∧ Keeps (ownL p m q) w w'
theorem qPush (x : Int) (w : World) (h : LsQ w p m q N T) (hx : (Lit.int .i64 x).wf = true) (hN : N < 1048576) :
    Calls Try.prog 22 #[.pointer (some ⟨p, 0, none⟩), .int .i64 x] w fun e w' => e = .returned (.bool (!T x)) ∧ QDone w p m q (N + 1) (fun y => decide (y = x) || T y) w' := by
  obtain ⟨c, l, M, h1, h2, h3, h4⟩ := h
  rw [← getD_T h4 x]
  refine (lsPush_any x w h1 hx (by omega) (by omega)).mono ?_
  rintro e w' ⟨rfl, q', l', k1, k2, k3, k4⟩
  refine ⟨rfl, q', ⟨c + 1, l', _, k1, by omega, by omega, fun y => ?_⟩, k3, k4⟩
  unfold updB
  by_cases hy : y = x
  · rw [if_pos hy]; simp [hy]
  · rw [if_neg hy, h4 y]; simp [hy]
theorem qPop (z : Option Int) (w : World) (h : LsQ w p m q N T) (hN : N < 1048576) (hz : (z = none ∧ ∀ y, T y = false) ∨ ∃ x, z = some x ∧ T x = true ∧ ∀ y, T y = true → x ≤ y) :
    Calls Try.prog 23 #[.pointer (some ⟨p, 0, none⟩)] w fun e w' => e = .returned (.tuple #[.int .i64 (z.getD 0), .bool z.isSome]) ∧ QDone w p m q N (fun y => !decide (z = some y) && T y) w' := by
  obtain ⟨c, l, M, h1, h2, h3, h4⟩ := h
  refine (lsPop_any w h1 (by omega)).mono ?_
  rintro e w' ⟨q', l', M', k1, k2, k3, k4, k5⟩
  rcases hz with ⟨rfl, hz⟩ | ⟨x, rfl, hx, hmin⟩
  · rcases k5 with ⟨rfl, a1, a2⟩ | ⟨x, rfl, a1, _⟩
    · exact ⟨rfl, q', ⟨c, l', M', k1, h2, by omega, fun y => ⟨fun h => absurd h (a2 y), fun h => by simp [hz y] at h⟩⟩, k3, k4⟩
    · have := (h4 x).1 a1
      rw [hz x] at this
      cases this
  · rcases k5 with ⟨rfl, a1, _⟩ | ⟨x', rfl, a1, a2, _, a3⟩
    · exact absurd ((h4 x).2 hx) (a1 x)
    · have e1 := hmin x' ((h4 x').1 a1)
      have e2 := a2 x ((h4 x).2 hx)
      obtain rfl : x' = x := by omega
      refine ⟨rfl, q', ⟨c, l', M', k1, h2, by omega, fun y => ?_⟩, k3, k4⟩
      rw [a3 y, h4 y]
      constructor
      · rintro ⟨b1, b2⟩
        simp [b2]; exact fun e => b1 e.symm
      · intro hb
        simp at hb
        exact ⟨fun e => hb.1 e.symm, hb.2⟩
theorem qDrop (x : Int) (w : World) (h : LsQ w p m q N T) (hx : (Lit.int .i64 x).wf = true) (hN : N < 1048576) :
    Calls Try.prog 45 #[.pointer (some ⟨p, 0, none⟩), .int .i64 x] w fun e w' => e = .returned (.bool (T x)) ∧ QDone w p m q (N + 1) (fun y => !decide (y = x) && T y) w' := by
  obtain ⟨c, l, M, h1, h2, h3, h4⟩ := h
  rw [← getD_T h4 x]
  refine (lsDrop_any x w h1 hx (by omega)).mono ?_
  rintro e w' ⟨rfl, k1, k2⟩
  refine ⟨rfl, q, ⟨c + 1, l, _, k1, by omega, by omega, fun y => ?_⟩, fun g hg => .inl hg, k2.mono (by simp)⟩
  by_cases hM : M x = some true
  · rw [if_pos hM]
    unfold updB
    by_cases hy : y = x
    · rw [if_pos hy]; simp [hy]
    · rw [if_neg hy, h4 y]; simp [hy]
  · rw [if_neg hM, h4 y]
    by_cases hy : y = x
    · have : T x = false := by
        cases hT : T x with
        | false => rfl
        | true => exact absurd ((h4 x).2 hT) hM
      rw [hy, this]; simp
    · simp [hy]
theorem qList (D : List Int) (w : World) (h : LsQ w p m q N T) (hN : N ≤ 1048576) (hD : D.Pairwise (· < ·)) (hm : ∀ x, x ∈ D ↔ T x = true) :
    Calls Try.prog 44 #[.pointer (some ⟨p, 0, none⟩)] w (RowDone w D) := by
  obtain ⟨c, l, M, h1, h2, h3, h4⟩ := h
  exact lsList_any D w h1 (by omega) (by omega) hD (fun x => by rw [hm x, h4 x])
end
end Go.Proofs.Ytogifanooleppaa

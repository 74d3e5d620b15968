/- least's Heap, as a set: Has, Push, Pop; the example of the chapter. -/
import Derived.Test.YtogifanooleppaaLeast
namespace Go.Proofs.Ytogifanooleppaa
open Go.RowKit Go.Maps
set_option linter.unusedVariables false

/-- block p is a Heap that holds the numbers of T; all that it owns lies at B or behind -/
def LsAt (B : Nat) (w : World) (p N : Nat) (T : Int → Bool) : Prop :=
  ∃ m c q l M, LeastAt w p m c q l M ∧ c ≤ N ∧ l.length ≤ N ∧ (∀ y, M y = some true ↔ T y = true) ∧ B ≤ p ∧ B ≤ m ∧ (∀ g, q = some g → B ≤ g) ∧ B ≤ w.heap.size
section
variable {B p N : Nat} {T : Int → Bool} {w w' : World}
theorem LsAt.below (h : LsAt B w p N T) (hb : Below w.heap.size w w') : LsAt B w' p N T := by
  obtain ⟨m, c, q, l, M, h1, h2, h3, h4, h5, h6, h7, h8⟩ := h
  exact ⟨m, c, q, l, M, h1.below hb, h2, h3, h4, h5, h6, h7, Nat.le_trans h8 hb.size⟩
theorem LsAt.congr {T' : Int → Bool} (h : LsAt B w p N T) (ht : ∀ y, T y = T' y) : LsAt B w p N T' := by
  obtain ⟨m, c, q, l, M, h1, h2, h3, h4, h5⟩ := h
  exact ⟨m, c, q, l, M, h1, h2, h3, fun y => by rw [← ht y]; exact h4 y, h5⟩
theorem getD_T {M : Int → Option Bool} (h : ∀ y, M y = some true ↔ T y = true) (x : Int) : (M x).getD false = T x := by
  have := h x
  cases hM : M x with
  | none => rw [hM] at this; simp at this; rw [this]; rfl
  | some b => rw [hM] at this; cases b <;> simp at this <;> rw [this] <;> rfl
theorem below_own {m : Nat} {q : Option Nat} (hk : Keeps (p :: m :: q.toList) w w') (h5 : B ≤ p) (h6 : B ≤ m) (h7 : ∀ g, q = some g → B ≤ g) (h8 : B ≤ w.heap.size) : Below B w w' := by
  refine hk.below h8 fun k hm => ?_
  simp at hm
  rcases hm with rfl | rfl | hm
  · exact h5
  · exact h6
  · exact h7 k hm
theorem tNew (w : World) : Calls Try.prog 20 #[] w fun e w' => ∃ p, e = .returned (.pointer (some ⟨p, 0, none⟩)) ∧ LsAt w.heap.size w' p 0 (fun _ => false) ∧ Below w.heap.size w w' := by
  refine (lsNew_any w).mono ?_
  rintro e w' ⟨p, m, rfl, h, ⟨h1, h2⟩, hb⟩
  exact ⟨p, rfl, ⟨m, 0, none, [], _, h, Nat.le_refl _, Nat.le_refl _, fun y => by simp, h1, h2, fun g hg => (by cases hg), hb.size⟩, hb⟩
theorem tHas (x : Int) (w : World) (h : LsAt B w p N T) (hx : (Lit.int .i64 x).wf = true) :
    Calls Try.prog 21 #[.pointer (some ⟨p, 0, none⟩), .int .i64 x] w fun e w' => e = .returned (.bool (T x)) ∧ w = w' := by
  obtain ⟨m, c, q, l, M, h1, h2, h3, h4, h5⟩ := h
  rw [← getD_T h4 x]
  exact lsHas_any x w h1 hx
theorem tPush (x : Int) (w : World) (h : LsAt B w p N T) (hx : (Lit.int .i64 x).wf = true) (hN : N < 1048576) :
    Calls Try.prog 22 #[.pointer (some ⟨p, 0, none⟩), .int .i64 x] w fun e w' => e = .returned (.bool (!T x)) ∧ LsAt B w' p (N + 1) (fun y => decide (y = x) || T y) ∧ Below B w w' := by
  obtain ⟨m, c, q, l, M, h1, h2, h3, h4, h5, h6, h7, h8⟩ := h
  rw [← getD_T h4 x]
  refine (lsPush_any x w h1 hx (by omega) (by omega)).mono ?_
  rintro e w' ⟨rfl, q', l', k1, k2, k3, k4⟩
  refine ⟨rfl, ⟨m, c + 1, q', l', _, k1, by omega, by omega, fun y => ?_, h5, h6, fun g hg => ?_, Nat.le_trans h8 k4.size⟩, below_own k4 h5 h6 h7 h8⟩
  · unfold updB
    by_cases hy : y = x
    · rw [if_pos hy]; simp [hy]
    · rw [if_neg hy, h4 y]; simp [hy]
  · rcases k3 g hg with h | h
    · exact h7 g h
    · omega
/-- Pop: none is there, or the least one, z, goes -/
theorem tPop (z : Option Int) (w : World) (h : LsAt B w p N T) (hN : N < 1048576) (hz : (z = none ∧ ∀ y, T y = false) ∨ ∃ x, z = some x ∧ T x = true ∧ ∀ y, T y = true → x ≤ y) :
    Calls Try.prog 23 #[.pointer (some ⟨p, 0, none⟩)] w fun e w' => e = .returned (.tuple #[.int .i64 (z.getD 0), .bool z.isSome]) ∧ LsAt B w' p N (fun y => !decide (z = some y) && T y) ∧ Below B w w' := by
  obtain ⟨m, c, q, l, M, h1, h2, h3, h4, h5, h6, h7, h8⟩ := h
  refine (lsPop_any w h1 (by omega)).mono ?_
  rintro e w' ⟨q', l', M', k1, k2, k3, k4, k5⟩
  have hq : ∀ g, q' = some g → B ≤ g := fun g hg => by
    rcases k3 g hg with h | h
    · exact h7 g h
    · omega
  rcases hz with ⟨rfl, hz⟩ | ⟨x, rfl, hx, hmin⟩
  · rcases k5 with ⟨rfl, a1, a2⟩ | ⟨x, rfl, a1, _⟩
    · exact ⟨rfl, ⟨m, c, q', l', M', k1, h2, by omega, fun y => ⟨fun h => absurd h (a2 y), fun h => by simp [hz y] at h⟩, h5, h6, hq, Nat.le_trans h8 k4.size⟩, below_own k4 h5 h6 h7 h8⟩
    · have := (h4 x).1 a1
      rw [hz x] at this
      cases this
  · rcases k5 with ⟨rfl, a1, _⟩ | ⟨x', rfl, a1, a2, _, a3⟩
    · exact absurd ((h4 x).2 hx) (a1 x)
    · have e1 := hmin x' ((h4 x').1 a1)
      have e2 := a2 x ((h4 x).2 hx)
      obtain rfl : x' = x := by omega
      refine ⟨rfl, ⟨m, c, q', l', M', k1, h2, by omega, fun y => ?_, h5, h6, hq, Nat.le_trans h8 k4.size⟩, below_own k4 h5 h6 h7 h8⟩
      rw [a3 y, h4 y]
      constructor
      · rintro ⟨b1, b2⟩
        simp [b2]; exact fun e => b1 e.symm
      · intro hb
        simp at hb
        exact ⟨fun e => hb.1 e.symm, hb.2⟩
end
theorem alive10 (w : World) : Calls Try.prog 19 #[] w fun e w' => e = .returned (.bool true) ∧ Below w.heap.size w w' := by
  obtain ⟨B, hB⟩ : ∃ B, B = w.heap.size := ⟨_, rfl⟩
  have HBE := Lib.hid hB
  have HN := Lib.hid (tNew w)
  rw [← hB] at HN ⊢
  clear hB
  go_enter Try.func19, Try.ntmps19
  go_wp2_with fail
  refine HN.out.mono ?_
  rintro e w1 ⟨p, rfl, h1, hb1⟩
  have HB1 := Lib.hid hb1
  have H1 := Lib.hid (tPop none w1 h1 (by omega) (.inl ⟨rfl, fun _ => rfl⟩))
  clear h1 hb1
  go_wp2_with fail
  refine H1.out.mono ?_
  rintro e w2 ⟨rfl, h2, hb2⟩
  have HB2 := Lib.hid (HB1.out.trans hb2)
  have H2 := Lib.hid (tPush 4 w2 h2 (WalkArith.wf_i64 (by omega)) (by omega))
  clear h2 hb2
  go_wp2_with fail
  refine H2.out.mono ?_
  rintro e w3 ⟨rfl, h3, hb3⟩
  have HB3 := Lib.hid (HB2.out.trans hb3)
  have H3 := Lib.hid (tPop (some 4) w3 h3 (by omega) (.inr ⟨4, rfl, rfl, fun y hy => by simp at hy; omega⟩))
  clear h3 hb3
  go_wp2_with fail
  refine H3.out.mono ?_
  rintro e w4 ⟨rfl, _, hb4⟩
  have HB4 := Lib.hid (HB3.out.trans hb4)
  clear hb4
  go_wp2
  go_ret
  exact ⟨rfl, HB4.out⟩
end Go.Proofs.Ytogifanooleppaa

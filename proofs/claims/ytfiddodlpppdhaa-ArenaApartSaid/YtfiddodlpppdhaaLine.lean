/- The methods of package line compute what they say: contracts over the seat's program. -/
import Derived.Test.YtfiddodlpppdhaaChecked
import Derived.WalkLawsBesides
import Derived.Test.YtfiddodlpppdhaaRow
import Derived.Test.YtfiddodlpppdhaaBits
namespace Go.Proofs.Ytfiddodlpppdhaa
open Go.RowKit
set_option linter.unusedVariables false

/-- how many words wait -/
def sumL : List (Int × Nat) → Nat
  | [] => 0
  | x :: r => x.2 + sumL r
/-- the cells of what waits -/
def cellsL : List (Int × Nat) → List Value
  | [] => []
  | x :: r => .int .i64 x.1 :: .int .i64 (x.2 : Nat) :: cellsL r
theorem cellsL_len (l : List (Int × Nat)) : (cellsL l).length = l.length * 2 := by
  induction l with
  | nil => rfl
  | cons x r ih => simp only [cellsL, List.length_cons, ih]; omega
theorem cellsL_snoc (l : List (Int × Nat)) (a : Int) (n : Nat) : cellsL (l ++ [(a, n)]) = cellsL l ++ [.int .i64 a, .int .i64 (n : Nat)] := by
  induction l with
  | nil => rfl
  | cons x r ih => simp only [List.cons_append, cellsL, ih]
theorem sumL_append (l r : List (Int × Nat)) : sumL (l ++ r) = sumL l + sumL r := by
  induction l with
  | nil => simp [sumL]
  | cons x l ih => simp only [List.cons_append, sumL, ih]; omega
theorem sumL_le {l : List (Int × Nat)} {m : Nat} (h : ∀ x ∈ l, x.2 ≤ m) : sumL l ≤ l.length * m := by
  induction l with
  | nil => simp [sumL]
  | cons x r ih =>
    have h1 := h x (by simp)
    have h2 := ih fun y hy => h y (by simp [hy])
    simp only [sumL, List.length_cons, Nat.succ_mul]
    omega

/-- block p is a Line with a budget; l waits; its row lies in block q, if it has one -/
structure LineAt (w : World) (p : Nat) (q : Option Nat) (bud : Nat) (l : List (Int × Nat)) : Prop where
  budLe : bud ≤ 1073741824
  at_ : ∃ T v, w.heap[p]? = some (.cells #[.int .i64 (bud : Nat), .int .i64 (sumL l : Nat), v] T (0, 0)) ∧ v.ownBlock = q ∧ RowS w 2 v l.length (cellsL l)
  ne : q ≠ some p
  small : ∀ x ∈ l, x.2 ≤ 1073741824
  len : l.length ≤ 1048576

section
variable {w w' : World} {p bud : Nat} {q : Option Nat} {l : List (Int × Nat)}
theorem LineAt.keeps {ls : List Nat} (h : LineAt w p q bud l) (k : Keeps ls w w') (hp : p ∉ ls) (hq : ∀ g, q = some g → g ∉ ls) : LineAt w' p q bud l := by
  obtain ⟨h1, ⟨T, v, h2, h3, h4⟩, h5, h6, h7⟩ := h
  exact ⟨h1, ⟨T, v, k.at h2 hp, h3, h4.keeps k fun g hg => hq g (by rw [← h3, hg])⟩, h5, h6, h7⟩
theorem LineAt.lt (h : LineAt w p q bud l) : p < w.heap.size ∧ ∀ g, q = some g → g < w.heap.size := by
  obtain ⟨h1, ⟨T, v, h2, h3, h4⟩, h5, h6, h7⟩ := h
  exact ⟨(Array.getElem?_eq_some_iff.1 h2).1, fun g hg => h4.lt g (by rw [h3, hg])⟩
theorem LineAt.sum_le (h : LineAt w p q bud l) : sumL l ≤ 1125899906842624 := by
  have h1 := sumL_le h.small
  have h2 := h.len
  have : l.length * 1073741824 ≤ 1048576 * 1073741824 := Nat.mul_le_mul_right _ h2
  omega
end

theorem line_cells : Try.prog.cellsOf 83 = 2 := by kernel_rfl
/-- what taking the first one does -/
def FirstDone (p : Nat) (q : Option Nat) (bud : Nat) (x : Int) (r : List (Int × Nat)) (w : World) (en : Ending) (w' : World) : Prop :=
  en = .returned (.int .i64 x) ∧ LineAt w' p q bud r ∧ Keeps [p] w w'
theorem LineAt.popped {w : World} {p bud : Nat} {q : Option Nat} {xa : Int} {xn : Nat} {r : List (Int × Nat)} (h : LineAt w p q bud ((xa, xn) :: r)) {v' : Value} (hv' : RowS w 2 v' r.length (cellsL r)) (hq : v'.ownBlock = q) (o : Obj) :
    LineAt ((((w.setCell ⟨p, 2, none⟩ v').setCell ⟨p, 1, none⟩ (.int .i64 ((xn : Int) + (sumL r : Nat) - (xn : Int)))).alloc o).drew) p q bud r ∧ Keeps [p] w ((((w.setCell ⟨p, 2, none⟩ v').setCell ⟨p, 1, none⟩ (.int .i64 ((xn : Int) + (sumL r : Nat) - (xn : Int)))).alloc o).drew) := by
  have hk : Keeps [p] w ((((w.setCell ⟨p, 2, none⟩ v').setCell ⟨p, 1, none⟩ (.int .i64 ((xn : Int) + (sumL r : Nat) - (xn : Int)))).alloc o).drew) :=
    ((((Keeps.refl _ _).setCell (.inl (List.mem_singleton_self p)) _).setCell (.inl (List.mem_singleton_self p)) _).alloc _).drew
  refine ⟨⟨h.budLe, ?_, h.ne, fun x hx => h.small x (by simp [hx]), by have := h.len; simp at this; omega⟩, hk⟩
  obtain ⟨T, v, hp, hv, hr⟩ := h.at_
  refine ⟨T, v', ?_, hq, hv'.keeps hk fun g hg => ?_⟩
  · have e1 := setCell_block (i := 2) hp v'
    have e2 := setCell_block (i := 1) e1 (.int .i64 ((xn : Int) + (sumL r : Nat) - (xn : Int)))
    have e3 : ((((w.setCell ⟨p, 2, none⟩ v').setCell ⟨p, 1, none⟩ (.int .i64 ((xn : Int) + (sumL r : Nat) - (xn : Int)))).alloc o).drew).heap[p]? = ((w.setCell ⟨p, 2, none⟩ v').setCell ⟨p, 1, none⟩ (.int .i64 ((xn : Int) + (sumL r : Nat) - (xn : Int)))).heap[p]? :=
      heap_alloc_lt _ _ (Array.getElem?_eq_some_iff.1 e2).1
    rw [e3, e2]
    have e4 : (xn : Int) + (sumL r : Nat) - (xn : Int) = (sumL r : Nat) := by omega
    rw [e4]
    rfl
  · intro hm
    cases List.mem_singleton.1 hm
    exact h.ne (by rw [← hq, hg])
theorem first_any {p bud : Nat} {q : Option Nat} {x : Int × Nat} {r : List (Int × Nat)} (w : World) (h : LineAt w p q bud (x :: r)) :
    Calls Try.prog 47 #[.pointer (some ⟨p, 0, none⟩)] w (FirstDone p q bud x.1 r w) := by
  have hsum := h.sum_le
  obtain ⟨T, v, hp, hv, hr⟩ := h.at_
  rcases hr.2 with ⟨_, h0⟩ | ⟨g, off, cap, cur, e, rfl, hg, h1, h2, h3, h4⟩
  · simp at h0
  have c1 : w.cell? ⟨p, 1, none⟩ = some (.int .i64 (sumL (x :: r) : Nat)) := by rw [cell_of_block hp]; rfl
  have c2 : w.cell? ⟨p, 2, none⟩ = some (.slice (some ⟨g, off, none⟩) (r.length + 1) cap) := by rw [cell_of_block hp]; rfl
  have f1 : w.frozen? ⟨p, 1, none⟩ = false := free_of_block hp
  have f2 : w.frozen? ⟨p, 2, none⟩ = false := free_of_block hp
  have g0 : w.cell? ⟨g, off, none⟩ = some (.int .i64 x.1) := by rw [cell_of_block hg]; exact h4 0 _ rfl
  have g1 : w.cell? ⟨g, off + 1, none⟩ = some (.int .i64 (x.2 : Nat)) := by rw [cell_of_block hg]; exact h4 1 _ rfl
  have hcells := line_cells
  have hpl := (Array.getElem?_eq_some_iff.1 hp).1
  have hgl := (Array.getElem?_eq_some_iff.1 hg).1
  have hne : g ≠ p := fun q' => h.ne (by rw [← hv, q']; rfl)
  have hlen := h.len
  have hx2 := h.small x (by simp)
  obtain ⟨xa, xn⟩ := x
  dsimp only at g0 g1 hx2 ⊢
  have es : sumL ((xa, xn) :: r) = xn + sumL r := rfl
  rw [es] at c1 hsum
  have H := Lib.hid h
  have HV := Lib.hid hv
  simp only [List.length_cons] at h1 hlen
  by_cases hcap : cap = 1
  · subst hcap
    have hr0 : r = [] := List.length_eq_zero_iff.1 (by omega)
    subst hr0
    have HR : Hid (RowS w 2 (.slice (some ⟨g, off, none⟩) 0 0) ([] : List (Int × Nat)).length (cellsL [])) := (show RowS w 2 (.slice (some ⟨g, off, none⟩) 0 0) ([] : List (Int × Nat)).length (cellsL []) from
      ⟨by simp [cellsL], .inr ⟨g, off, 0, cur, e, rfl, hg, Nat.le_refl _, Nat.zero_le _, by omega, fun j u hu => by simp [cellsL] at hu⟩⟩)
    clear h hr h4 es hp hg hv
    go_enter Try.func47, Try.ntmps47
    go_wp2
    go_region
    go_wp2
    go_ret
    have := H.out.popped HR.out (by rw [← HV.out]; rfl) (.cells #[.int .i64 xa, .int .i64 (xn : Nat)] 83)
    exact ⟨rfl, this.1, this.2⟩
  · have HR : Hid (RowS w 2 (.slice (some ⟨g, off + 2, none⟩) r.length (cap - 1)) r.length (cellsL r)) := (show RowS w 2 (.slice (some ⟨g, off + 2, none⟩) r.length (cap - 1)) r.length (cellsL r) from
      ⟨cellsL_len r, .inr ⟨g, off + 2, cap - 1, cur, e, rfl, hg, by omega, by omega, by omega, fun j u hu => by
        have := h4 (j + 2) u hu
        rw [show off + 2 + j = off + (j + 2) by omega]
        exact this⟩⟩)
    clear h hr h4 es hp hg hv
    go_enter Try.func47, Try.ntmps47
    go_wp2
    go_region
    go_wp2
    go_ret
    have := H.out.popped HR.out (by rw [← HV.out]; rfl) (.cells #[.int .i64 xa, .int .i64 (xn : Nat)] 83)
    exact ⟨rfl, this.1, this.2⟩
end Go.Proofs.Ytfiddodlpppdhaa

/- ModuleLimits: many functions. -/
import Derived.Test.YteipnfnbepnpjaaModLimits2
namespace Go.Proofs.Yteipnfnbepnpjaa
open Go.RowKit Go.Maps
set_option linter.unusedVariables false
def cK (s : Value) (k : Nat) : List Value := (List.range (3 * k)).map fun q => if q % 3 = 0 then .int .i64 1 else if q % 3 = 1 then .int .i64 50 else s
theorem cK_succ (s : Value) (k : Nat) : cK s (k + 1) = cK s k ++ [.int .i64 1, .int .i64 50, s] := by
  unfold cK
  rw [show 3 * (k + 1) = 3 * k + 1 + 1 + 1 by omega, List.range_succ, List.range_succ, List.range_succ]
  simp only [List.map_append, List.map_cons, List.map_nil, List.append_assoc, List.cons_append, List.nil_append]
  rw [if_pos (show 3 * k % 3 = 0 by omega), if_neg (show ¬ (3 * k + 1) % 3 = 0 by omega), if_pos (show (3 * k + 1) % 3 = 1 by omega), if_neg (show ¬ (3 * k + 1 + 1) % 3 = 0 by omega), if_neg (show ¬ (3 * k + 1 + 1) % 3 = 1 by omega)]
theorem cK_one (s : Value) : cK s 1 = [.int .i64 1, .int .i64 50, s] := rfl
theorem cK_get (s : Value) {k i j : Nat} (hi : i < k) (hj : j < 3) : (cK s k)[i * 3 + j]? = some (if j = 0 then .int .i64 1 else if j = 1 then .int .i64 50 else s) := by
  unfold cK
  rw [List.getElem?_map, List.getElem?_range (by omega)]
  rcases (by omega : j = 0 ∨ j = 1 ∨ j = 2) with rfl | rfl | rfl
  · simp only [Option.map_some]; rw [if_pos (show (i * 3 + 0) % 3 = 0 by omega)]; rfl
  · simp only [Option.map_some]; rw [if_neg (show ¬ (i * 3 + 1) % 3 = 0 by omega), if_pos (show (i * 3 + 1) % 3 = 1 by omega)]; rfl
  · simp only [Option.map_some]; rw [if_neg (show ¬ (i * 3 + 2) % 3 = 0 by omega), if_neg (show ¬ (i * 3 + 2) % 3 = 1 by omega)]; rfl
theorem src3 (w : World) (a b c : Value) (t : TypeId) : Src (w.alloc (.cells #[a, b, c] t)) (.slice (some ⟨w.heap.size, 0, none⟩) 1 1) 1 3 [a, b, c] := by
  refine .inr ⟨_, _, rfl, rfl, fun j x hx => ?_⟩
  have h := cell_of_block (i := j) (heap_alloc_at w (.cells #[a, b, c] t))
  have e : (⟨w.heap.size, 0, none⟩ : Addr).add j = ⟨w.heap.size, j, none⟩ := by unfold Addr.add; split <;> simp_all
  rw [e, h, ← hx]
  simp
theorem one3 (a : Option Addr) (l c : Nat) (x y : Int) : ∀ u ∈ [Value.int .i64 x, .int .i64 y, .slice a l c], u.oneCell' = true := by
  intro u hu
  simp only [List.mem_cons, List.not_mem_nil, or_false] at hu
  rcases hu with rfl | rfl | rfl <;> rfl
/-- the code's slice -/
def cdV (w1 : World) : Value := .slice (some ⟨w1.heap.size + 1, 0, none⟩) 2 2
/-- where it stands -/
structure LpS (w1 : World) (v : Value) (k : Nat) (w : World) : Prop where
  m : w.heap[w1.heap.size + 1 + 1 + 1 + 1]? = some (.cells #[.int .i64 0, .slice none 0 0, v, .slice none 0 0] 47 (0, 0))
  x : w.heap[w1.heap.size + 1 + 1]? = some (.cells #[.int .i64 1, .int .i64 50, cdV w1] 61 (0, 0))
  row : RowS w 3 v k (cK (cdV w1) k)
  own : ∀ g, v.ownBlock = some g → g ≠ w1.heap.size + 1 + 1 + 1 + 1 ∧ g ≠ w1.heap.size + 1 + 1 ∧ w1.heap.size ≤ g
  bel : Below w1.heap.size w1 w
theorem LpS.start (w1 : World) (A B : Obj) : LpS w1 (.slice (some ⟨w1.heap.size + 1 + 1 + 1, 0, none⟩) 1 1) 1 (((((w1.alloc A).alloc B).alloc (.cells #[.int .i64 1, .int .i64 50, cdV w1] 61)).alloc (.cells #[.int .i64 1, .int .i64 50, cdV w1] 61)).alloc (.cells #[.int .i64 0, .slice none 0 0, .slice (some ⟨w1.heap.size + 1 + 1 + 1, 0, none⟩) 1 1, .slice none 0 0] 47)) := by
  refine ⟨?_, ?_, ⟨rfl, .inr ⟨_, 0, 1, _, _, rfl, five_blk _ _ _ _ _ _, Nat.le_refl _, by decide, by simp, fun j u hu => ?_⟩⟩, fun g hg => ?_, five_alloc _ _ _ _ _ _⟩
  · have := heap_alloc_at ((((w1.alloc A).alloc B).alloc (.cells #[.int .i64 1, .int .i64 50, cdV w1] 61)).alloc (.cells #[.int .i64 1, .int .i64 50, cdV w1] 61)) (.cells #[.int .i64 0, .slice none 0 0, .slice (some ⟨w1.heap.size + 1 + 1 + 1, 0, none⟩) 1 1, .slice none 0 0] 47)
    simp only [size_alloc] at this
    exact this
  · rw [heap_alloc_lt _ _ (by simp only [size_alloc]; omega), heap_alloc_lt _ _ (by simp only [size_alloc]; omega)]
    have := heap_alloc_at ((w1.alloc A).alloc B) (.cells #[.int .i64 1, .int .i64 50, cdV w1] 61)
    simp only [size_alloc] at this
    exact this
  · rw [cK_one] at hu
    rw [Nat.zero_add]
    simpa using hu
  · have : w1.heap.size + 1 + 1 + 1 = g := by simpa [Value.ownBlock] using hg
    omega
theorem LpS.push {w1 wr w2 : World} {v v2 : Value} {k : Nat} {ob : Obj} (h : LpS w1 v k wr) (hr : RowS w2 3 v2 (k + 1) (cK (cdV w1) k ++ [.int .i64 1, .int .i64 50, cdV w1])) (hg : (wr.alloc ob).grownBy w2 v.ownBlock) (hv : v2.ownBlock = v.ownBlock ∨ ∃ g, v2.ownBlock = some g ∧ wr.heap.size + 1 ≤ g) :
    w2.heap[w1.heap.size + 1 + 1 + 1 + 1]? = some (.cells #[.int .i64 0, .slice none 0 0, v, .slice none 0 0] 47 (0, 0)) ∧ LpS w1 v2 (k + 1) (w2.setCell ⟨w1.heap.size + 1 + 1 + 1 + 1, 2, none⟩ v2) := by
  have lm := (Array.getElem?_eq_some_iff.1 h.m).1
  have lx := (Array.getElem?_eq_some_iff.1 h.x).1
  have hm2 : w2.heap[w1.heap.size + 1 + 1 + 1 + 1]? = some (.cells #[.int .i64 0, .slice none 0 0, v, .slice none 0 0] 47 (0, 0)) := by
    rw [hg.block _ (by rw [size_alloc]; omega) (fun e => (h.own _ e.symm).1 rfl), heap_alloc_lt _ _ lm]
    exact h.m
  have hx2 : w2.heap[w1.heap.size + 1 + 1]? = some (.cells #[.int .i64 1, .int .i64 50, cdV w1] 61 (0, 0)) := by
    rw [hg.block _ (by rw [size_alloc]; omega) (fun e => (h.own _ e.symm).2.1 rfl), heap_alloc_lt _ _ lx]
    exact h.x
  have ho : ∀ g, v2.ownBlock = some g → g ≠ w1.heap.size + 1 + 1 + 1 + 1 ∧ g ≠ w1.heap.size + 1 + 1 ∧ w1.heap.size ≤ g := by
    intro g hg'
    rcases hv with hv | ⟨g', hv, hge⟩
    · exact h.own g (by rw [← hv]; exact hg')
    · rw [hv] at hg'; cases hg'; omega
  have hs := h.bel.size
  refine ⟨hm2, ?_, (setCell_other _ (by omega)).trans hx2, ?_, ho, ?_⟩
  · have := setCell_block (i := 2) hm2 v2
    simpa using this
  · rw [cK_succ]
    exact hr.keeps ((Keeps.refl [w1.heap.size + 1 + 1 + 1 + 1] w2).setCell (.inl (by simp)) _) (fun g hg' => by simpa using (ho g hg').1)
  · exact ((h.bel.alloc hs ob).trans ⟨hg.os, hg.tape, hg.output, by have := hg.size; omega, fun k hk => hg.block k (by rw [size_alloc]; omega) (fun e => by have := (h.own _ e.symm).2.2; omega)⟩).setCell (by show w1.heap.size ≤ w1.heap.size + 1 + 1 + 1 + 1; omega) _
/-- as many functions, and room for more -/
def fX (n c : Nat) (ca : Option Addr) : ModX := { lX 0 0 n 0 false ByteArray.empty 1 50 ca 2 with c2 := c }
theorem fx_right (n c : Nat) (ca : Option Addr) (hn : 0 < n) : (fX n c ca).rightE = if n ≤ 100 then 0 else 9 := by
  have h : (fX n c ca).sizedB = (((true && true && decide ((n : Int) ≤ 100) && true) && true && allN (fX n c ca).fOk n) && true) := rfl
  by_cases hs : n ≤ 100
  · rw [if_pos hs]
    have ha : allN (fX n c ca).fOk n = true := (allN_iff _ _).2 fun i _ => rfl
    rw [decide_eq_true (show (n : Int) ≤ 100 by omega), ha] at h
    exact right_0 h (show ¬ n = 0 by omega) rfl rfl
  · rw [if_neg hs]
    rw [decide_eq_false (show ¬ (n : Int) ≤ 100 by omega)] at h
    exact right_9 h
theorem right_n {w1 w : World} {va : Option Addr} {vc : Nat} (n e : Nat) (h0 : 0 < n) (h : LpS w1 (.slice va n vc) n w) (he : (if n ≤ 100 then 0 else 9) = e) :
    Calls Try.prog 30 #[.agg #[.int .i64 0, .slice none 0 0, .slice va n vc, .slice none 0 0]] w fun en w' => en = .returned (.int .i64 (e : Nat)) ∧ Below w1.heap.size w1 w' := by
  obtain ⟨a, cap, hv, h1, h2, h3, h4⟩ := h.row.read
  cases hv
  have hh := right_any (m := fX n vc (some ⟨w1.heap.size + 1, 0, none⟩)) (a1 := none) (a2 := va) (a3 := none) w ⟨rows_none, ⟨h1, (show vc ≤ 9223372036854775807 by simpa [maxLen] using h2), h3, fun i j hi hj => by
    obtain ⟨b, off, e, hl, hc⟩ := h4 (i * 3 + j) _ (cK_get _ hi hj)
    refine ⟨b, off, e, hl, hc.trans ?_⟩
    rcases (by omega : j = 0 ∨ j = 1 ∨ j = 2) with rfl | rfl | rfl <;> rfl⟩, rows_none⟩
  rw [fx_right n vc _ h0, he] at hh
  exact hh.mono fun en w' hx => rt_below h.bel hx
end Go.Proofs.Yteipnfnbepnpjaa

/- ModuleLimits: a long text, a long code. -/
import Derived.Test.YteipnfnbepnpjaaModLimits1
namespace Go.Proofs.Yteipnfnbepnpjaa
open Go.RowKit Go.Maps
set_option linter.unusedVariables false
theorem zero_holds {w : World} {g n : Nat} (h : w.heap[g]? = some (.cells (madeCells #[Value.int .u8 0] n) 5 (0, 0))) (hn : n ≤ 100000) : HoldsB w (some ⟨g, 0, none⟩) n n (List.replicate n 0) := by
  have hb := zeros_bys h hn
  refine ⟨by simp, Nat.le_refl _, by omega, fun e => (by cases e), fun i y hy => ?_, fun y hy => by rw [List.eq_of_mem_replicate hy]; decide⟩
  have hi : i < n := by have := (List.getElem?_eq_some_iff.1 hy).1; simpa using this
  obtain ⟨_, _, e, hlt, c0⟩ := hb.cell i hi
  rw [List.getElem?_replicate, if_pos hi] at hy
  cases hy
  exact ⟨_, _, e, hlt, c0⟩
theorem zero_conv (n : Nat) (hn : n ≤ 100000) (w1 : World) (A B C F M : Obj) : (convert 26 9 (.slice (some ⟨w1.heap.size + 1 + 1 + 1 + 1 + 1, 0, none⟩) n n)).run Try.prog ((((((w1.alloc A).alloc B).alloc C).alloc F).alloc M).alloc (.cells (madeCells #[Value.int .u8 0] n) 5)) = .ok (.string (strOf (List.replicate n 0))) ((((((w1.alloc A).alloc B).alloc C).alloc F).alloc M).alloc (.cells (madeCells #[Value.int .u8 0] n) 5)) :=
  (zero_holds (six_last w1 A B C F M _) hn).conv
theorem lx_text (s : ByteArray) (ca : Option Addr) : (lX 0 1 1 0 true s 1 50 ca 2).rightE = if s.size ≤ 255 then 0 else 9 := by
  have h : (lX 0 1 1 0 true s 1 50 ca 2).sizedB = (((true && (true && decide (s.size ≤ 255))) && (true && true)) && true) := rfl
  by_cases hs : s.size ≤ 255
  · rw [if_pos hs]
    rw [decide_eq_true hs] at h
    exact right_0 h (show ¬ (1 = 0) by decide) rfl rfl
  · rw [if_neg hs]
    rw [decide_eq_false hs] at h
    exact right_9 h
theorem seven_blk (w1 : World) (A B C F M D T : Obj) : (((((((w1.alloc A).alloc B).alloc C).alloc F).alloc M).alloc D).alloc T).heap[w1.heap.size + 1 + 1 + 1]? = some F := by
  rw [heap_alloc_lt _ _ (by simp only [size_alloc]; omega)]
  exact six_blk _ _ _ _ _ _ _
theorem seven_last (w1 : World) (A B C F M D T : Obj) : (((((((w1.alloc A).alloc B).alloc C).alloc F).alloc M).alloc D).alloc T).heap[w1.heap.size + 1 + 1 + 1 + 1 + 1 + 1]? = some T := by
  have := heap_alloc_at ((((((w1.alloc A).alloc B).alloc C).alloc F).alloc M).alloc D) T
  simp only [size_alloc] at this
  exact this
theorem seven_alloc (w1 : World) (A B C F M D T : Obj) : Below w1.heap.size w1 (((((((w1.alloc A).alloc B).alloc C).alloc F).alloc M).alloc D).alloc T) :=
  (six_alloc _ _ _ _ _ _ _).alloc (by simp only [size_alloc]; omega) _
theorem right_t {w1 : World} {A B C M D : Obj} {ca : Option Addr} {s : ByteArray} (n e : Nat) (hn : s.size = n) (he : (if n ≤ 255 then 0 else 9) = e) :
    Calls Try.prog 30 #[.agg #[.int .i64 0, .slice (some ⟨w1.heap.size + 1 + 1 + 1 + 1 + 1 + 1, 0, none⟩) 1 1, .slice (some ⟨w1.heap.size + 1 + 1 + 1, 0, none⟩) 1 1, .slice none 0 0]] (((((((w1.alloc A).alloc B).alloc C).alloc (.cells #[.int .i64 1, .int .i64 50, .slice ca 2 2] 61)).alloc M).alloc D).alloc (.cells #[.bool true, .int .i64 0, .string s] 63)) fun en w' => en = .returned (.int .i64 (e : Nat)) ∧ Below w1.heap.size w1 w' := by
  have hl := seven_last w1 A B C (.cells #[.int .i64 1, .int .i64 50, .slice ca 2 2] 61) M D (.cells #[.bool true, .int .i64 0, .string s] 63)
  have h := right_any _ (lx_func (G := 0) (b := true) (s := s) (n1 := 1) (n3 := 0) (seven_blk w1 A B C (.cells #[.int .i64 1, .int .i64 50, .slice ca 2 2] 61) M D (.cells #[.bool true, .int .i64 0, .string s] 63)) (a1 := some ⟨w1.heap.size + 1 + 1 + 1 + 1 + 1 + 1, 0, none⟩) ⟨Nat.le_refl _, by decide, fun e => (by cases e), fun i j hi hj => by
    obtain rfl : i = 0 := by omega
    refine ⟨_, 0, rfl, (Array.getElem?_eq_some_iff.1 hl).1, ?_⟩
    rcases (by omega : j = 0 ∨ j = 1 ∨ j = 2) with rfl | rfl | rfl <;> exact cell_of_block hl⟩ rows_none)
  rw [lx_text, hn, he] at h
  exact h.mono fun en w' hh => rt_below (seven_alloc _ _ _ _ _ _ _ _) hh
theorem zsize_255 : (strOf (List.replicate 255 0)).size = 255 := by kernel_rfl
theorem zsize_256 : (strOf (List.replicate 256 0)).size = 256 := by kernel_rfl
theorem bmake (n : Nat) (hn : n ≤ 100000) (W : World) : (Instr.makeSlice 26 (.int .i64 (n : Nat)) (.int .i64 (n : Nat))).run Try.prog W = .ok (.slice (some ⟨W.heap.size, 0, none⟩) n n) (W.alloc (.cells (madeCells #[Value.int .u8 0] n) 5)) := by
  obtain ⟨i0, hi, hz0, hz1, hz2⟩ := info_parts byteInfo
  have := makes_len (P := Try.prog) 26 5 i0 (.int .u8 0) Try.underlying26 hi hz0 .i64 .i64 n n (Nat.le_refl _) (by rw [hz2]; omega) (by omega) W
  rw [hz1, Nat.mul_one] at this
  exact this
theorem right_l {w1 : World} {A B C M D : Obj} {ca : Option Addr} (n e : Nat) (he : (lX 0 0 1 0 false ByteArray.empty 1 50 ca n).rightE = e) :
    Calls Try.prog 30 #[.agg #[.int .i64 0, .slice none 0 0, .slice (some ⟨w1.heap.size + 1 + 1 + 1, 0, none⟩) 1 1, .slice none 0 0]] (((((((w1.alloc A).alloc B).alloc C).alloc (.cells #[.int .i64 1, .int .i64 50, .slice ca n n] 61)).alloc M).alloc D).drew) fun en w' => en = .returned (.int .i64 (e : Nat)) ∧ Below w1.heap.size w1 w' := by
  have h := right_any _ ((lx_func (G := 0) (b := false) (s := ByteArray.empty) (n1 := 0) (n3 := 0) (six_blk w1 A B C (.cells #[.int .i64 1, .int .i64 50, .slice ca n n] 61) M D) rows_none rows_none).below (Below.refl _ _).drew)
  rw [he] at h
  exact h.mono fun en w' hh => rt_below (six_alloc _ _ _ _ _ _ _).drew hh
theorem lx_code (n : Nat) (ca : Option Addr) : (lX 0 0 1 0 false ByteArray.empty 1 50 ca n).rightE = if n ≤ 4000 then 0 else 9 := by
  have h : (lX 0 0 1 0 false ByteArray.empty 1 50 ca n).sizedB = (((true && true) && (true && (decide (n ≤ 4000) && true && true))) && true) := rfl
  by_cases hs : n ≤ 4000
  · rw [if_pos hs]
    rw [decide_eq_true hs] at h
    exact right_0 h (show ¬ (1 = 0) by decide) rfl rfl
  · rw [if_neg hs]
    rw [decide_eq_false hs] at h
    exact right_9 h
end Go.Proofs.Yteipnfnbepnpjaa

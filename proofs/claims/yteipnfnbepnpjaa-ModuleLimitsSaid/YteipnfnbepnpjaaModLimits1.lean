/- ModuleLimits: rows that are made. -/
import Derived.Test.YteipnfnbepnpjaaModLimits0
namespace Go.Proofs.Yteipnfnbepnpjaa
open Go.RowKit Go.Maps
set_option linter.unusedVariables false
theorem constInfo : (Try.prog.info? 63).map (fun i => (i.zero, i.size, i.bytes)) = some (some (.agg #[.bool false, .int .i64 0, .string ByteArray.empty]), 3, 32) := by kernel_rfl
theorem classInfo : (Try.prog.info? 76).map (fun i => (i.zero, i.size, i.bytes)) = some (some (.agg #[.int .i64 0, .int .i64 0]), 2, 16) := by kernel_rfl
theorem funcInfo : (Try.prog.info? 61).map (fun i => (i.zero, i.size, i.bytes)) = some (some (.agg #[.int .i64 0, .int .i64 0, .slice none 0 0]), 3, 40) := by kernel_rfl
theorem made_get {z : Array Value} {n i j s : Nat} (hs : z.size = s) (hi : i < n) (hj : j < s) : (madeCells z (n * s))[i * s + j]? = some z[j]! := by
  unfold madeCells
  have hlt : i * s + j < n * s := by
    have : (i + 1) * s ≤ n * s := Nat.mul_le_mul_right _ hi
    rw [Nat.add_mul, Nat.one_mul] at this
    omega
  rw [Array.getElem?_map, Array.getElem?_range, if_pos hlt]
  simp only [Option.map_some]
  rw [hs, Nat.mul_comm, Nat.mul_add_mod, Nat.mod_eq_of_lt hj]
theorem made3 {n : Nat} {w : World} {g : Nat} {t : TypeId} {a b c : Value} {K : Nat} (hK : K = n * 3) (hn : n ≤ 1000) (h : w.heap[g]? = some (.cells (madeCells #[a, b, c] K) t (0, 0))) {F : Nat → Nat → Value} (h0 : ∀ i, F i 0 = a) (h1 : ∀ i, F i 1 = b) (h2 : ∀ i, F i 2 = c) : Rows w (some ⟨g, 0, none⟩) n n 3 F := by
  subst hK
  refine ⟨Nat.le_refl _, by omega, fun e => (by cases e), fun i j hi hj => ⟨g, 0, rfl, (Array.getElem?_eq_some_iff.1 h).1, ?_⟩⟩
  rw [cell_of_block h, Nat.zero_add, made_get (z := #[a, b, c]) (s := 3) rfl hi hj]
  rcases (by omega : j = 0 ∨ j = 1 ∨ j = 2) with rfl | rfl | rfl
  · rw [h0]; rfl
  · rw [h1]; rfl
  · rw [h2]; rfl
theorem made2 {n : Nat} {w : World} {g : Nat} {t : TypeId} {a b : Value} {K : Nat} (hK : K = n * 2) (hn : n ≤ 1000) (h : w.heap[g]? = some (.cells (madeCells #[a, b] K) t (0, 0))) {F : Nat → Nat → Value} (h0 : ∀ i, F i 0 = a) (h1 : ∀ i, F i 1 = b) : Rows w (some ⟨g, 0, none⟩) n n 2 F := by
  subst hK
  refine ⟨Nat.le_refl _, by omega, fun e => (by cases e), fun i j hi hj => ⟨g, 0, rfl, (Array.getElem?_eq_some_iff.1 h).1, ?_⟩⟩
  rw [cell_of_block h, Nat.zero_add, made_get (z := #[a, b]) (s := 2) rfl hi hj]
  rcases (by omega : j = 0 ∨ j = 1) with rfl | rfl
  · rw [h0]; rfl
  · rw [h1]; rfl
theorem six_blk (w1 : World) (A B C F M D : Obj) : ((((((w1.alloc A).alloc B).alloc C).alloc F).alloc M).alloc D).heap[w1.heap.size + 1 + 1 + 1]? = some F := by
  rw [heap_alloc_lt _ _ (by simp only [size_alloc]; omega)]
  exact five_blk _ _ _ _ _ _
theorem six_last (w1 : World) (A B C F M D : Obj) : ((((((w1.alloc A).alloc B).alloc C).alloc F).alloc M).alloc D).heap[w1.heap.size + 1 + 1 + 1 + 1 + 1]? = some D := by
  have := heap_alloc_at (((((w1.alloc A).alloc B).alloc C).alloc F).alloc M) D
  simp only [size_alloc] at this
  exact this
theorem six_alloc (w1 : World) (A B C F M D : Obj) : Below w1.heap.size w1 ((((((w1.alloc A).alloc B).alloc C).alloc F).alloc M).alloc D) :=
  (five_alloc _ _ _ _ _ _).alloc (by simp only [size_alloc]; omega) _
theorem right_c {w1 : World} {A B C M : Obj} {ca : Option Addr} (n K e : Nat) (hK : K = n * 3) (hn : n ≤ 1000) (he : (lX 0 n 1 0 false ByteArray.empty 1 50 ca 2).rightE = e) :
    Calls Try.prog 30 #[.agg #[.int .i64 0, .slice (some ⟨w1.heap.size + 1 + 1 + 1 + 1 + 1, 0, none⟩) n n, .slice (some ⟨w1.heap.size + 1 + 1 + 1, 0, none⟩) 1 1, .slice none 0 0]] ((((((w1.alloc A).alloc B).alloc C).alloc (.cells #[.int .i64 1, .int .i64 50, .slice ca 2 2] 61)).alloc M).alloc (.cells (madeCells #[.bool false, .int .i64 0, .string ByteArray.empty] K) 63)) fun en w' => en = .returned (.int .i64 (e : Nat)) ∧ Below w1.heap.size w1 w' := by
  have h := right_any _ (lx_func (G := 0) (b := false) (s := ByteArray.empty) (n1 := n) (n3 := 0) (six_blk w1 A B C (.cells #[.int .i64 1, .int .i64 50, .slice ca 2 2] 61) M (.cells (madeCells #[.bool false, .int .i64 0, .string ByteArray.empty] K) 63)) (made3 hK hn (six_last _ _ _ _ _ _ _) (fun _ => rfl) (fun _ => rfl) (fun _ => rfl)) rows_none)
  rw [he] at h
  exact h.mono fun en w' hh => rt_below (six_alloc _ _ _ _ _ _ _) hh
theorem right_k {w1 : World} {A B C M : Obj} {ca : Option Addr} (n K e : Nat) (hK : K = n * 2) (hn : n ≤ 1000) (he : (lX 0 0 1 n false ByteArray.empty 1 50 ca 2).rightE = e) :
    Calls Try.prog 30 #[.agg #[.int .i64 0, .slice none 0 0, .slice (some ⟨w1.heap.size + 1 + 1 + 1, 0, none⟩) 1 1, .slice (some ⟨w1.heap.size + 1 + 1 + 1 + 1 + 1, 0, none⟩) n n]] ((((((w1.alloc A).alloc B).alloc C).alloc (.cells #[.int .i64 1, .int .i64 50, .slice ca 2 2] 61)).alloc M).alloc (.cells (madeCells #[.int .i64 0, .int .i64 0] K) 76)) fun en w' => en = .returned (.int .i64 (e : Nat)) ∧ Below w1.heap.size w1 w' := by
  have h := right_any _ (lx_func (G := 0) (b := false) (s := ByteArray.empty) (n1 := 0) (n3 := n) (six_blk w1 A B C (.cells #[.int .i64 1, .int .i64 50, .slice ca 2 2] 61) M (.cells (madeCells #[.int .i64 0, .int .i64 0] K) 76)) rows_none (made2 hK hn (six_last _ _ _ _ _ _ _) (fun _ => rfl) (fun _ => rfl)))
  rw [he] at h
  exact h.mono fun en w' hh => rt_below (six_alloc _ _ _ _ _ _ _) hh
set_option maxRecDepth 100000 in
set_option maxHeartbeats 4000000 in
theorem ml1 (ov : Bool) (w : World) : Calls Try.prog 10 #[.int .i64 1, .bool ov] w fun e w' => e = .returned (.bool true) ∧ Below w.heap.size w w' := by
  have HA := Lib.hid (fun w => alive20 w)
  have HN := Lib.hid (fun e w => num20_any e w)
  obtain ⟨i0, hi, hz0, hz1, hz2⟩ := info_parts constInfo
  have hmk : ∀ (n : Nat) (hn : n ≤ 1000) (W : World), (Instr.makeSlice 43 (.int .i64 (n : Nat)) (.int .i64 (n : Nat))).run Try.prog W = .ok (.slice (some ⟨W.heap.size, 0, none⟩) n n) (W.alloc (.cells (madeCells #[.bool false, .int .i64 0, .string ByteArray.empty] (n * 3)) 63)) := by
    intro n hn W
    have := makes_len (P := Try.prog) 43 63 i0 (.agg #[.bool false, .int .i64 0, .string ByteArray.empty]) Try.underlying43 hi hz0 .i64 .i64 n n (Nat.le_refl _) (by rw [hz2]; omega) (by omega) W
    rw [hz1] at this
    exact this
  clear hi hz0 hz1 hz2
  cases ov
  · have hm : ∀ W : World, (Instr.makeSlice 43 (.int .i64 200) (.int .i64 200)).run Try.prog W = .ok (.slice (some ⟨W.heap.size, 0, none⟩) 200 200) (W.alloc (.cells (madeCells #[.bool false, .int .i64 0, .string ByteArray.empty] 600) 63)) := fun W => hmk 200 (by decide) W
    clear hmk
    go_enter Try.func10, Try.ntmps10
    go_wp2_with fail
    refine (HA.out _).mono ?_
    rintro en w1 ⟨rfl, hb1⟩
    have HB1 := Lib.hid hb1
    clear hb1
    go_wp2_with fail
    refine (right_c 200 600 0 rfl (by decide) (by kernel_rfl)).mono ?_
    rintro en w2 ⟨rfl, hb2⟩
    have HB2 := Lib.hid (HB1.out.trans (hb2.mono HB1.out.size))
    clear hb2
    go_wp2_with fail
    refine (HN.out _ _).mono ?_
    rintro en w3 ⟨rfl, rfl⟩
    go_wp2
    go_ret
    exact ⟨rfl, HB2.out⟩
  · have hm : ∀ W : World, (Instr.makeSlice 43 (.int .i64 201) (.int .i64 201)).run Try.prog W = .ok (.slice (some ⟨W.heap.size, 0, none⟩) 201 201) (W.alloc (.cells (madeCells #[.bool false, .int .i64 0, .string ByteArray.empty] 603) 63)) := fun W => hmk 201 (by decide) W
    clear hmk
    go_enter Try.func10, Try.ntmps10
    go_wp2_with fail
    refine (HA.out _).mono ?_
    rintro en w1 ⟨rfl, hb1⟩
    have HB1 := Lib.hid hb1
    clear hb1
    go_wp2_with fail
    refine (right_c 201 603 9 rfl (by decide) (by kernel_rfl)).mono ?_
    rintro en w2 ⟨rfl, hb2⟩
    have HB2 := Lib.hid (HB1.out.trans (hb2.mono HB1.out.size))
    clear hb2
    go_wp2_with fail
    refine (HN.out _ _).mono ?_
    rintro en w3 ⟨rfl, rfl⟩
    go_wp2
    go_ret
    exact ⟨rfl, HB2.out⟩
set_option maxRecDepth 100000 in
set_option maxHeartbeats 4000000 in
theorem ml3 (ov : Bool) (w : World) : Calls Try.prog 10 #[.int .i64 3, .bool ov] w fun e w' => e = .returned (.bool true) ∧ Below w.heap.size w w' := by
  have HA := Lib.hid (fun w => alive20 w)
  have HN := Lib.hid (fun e w => num20_any e w)
  obtain ⟨i0, hi, hz0, hz1, hz2⟩ := info_parts classInfo
  have hmk : ∀ (n : Nat) (hn : n ≤ 1000) (W : World), (Instr.makeSlice 45 (.int .i64 (n : Nat)) (.int .i64 (n : Nat))).run Try.prog W = .ok (.slice (some ⟨W.heap.size, 0, none⟩) n n) (W.alloc (.cells (madeCells #[.int .i64 0, .int .i64 0] (n * 2)) 76)) := by
    intro n hn W
    have := makes_len (P := Try.prog) 45 76 i0 (.agg #[.int .i64 0, .int .i64 0]) Try.underlying45 hi hz0 .i64 .i64 n n (Nat.le_refl _) (by rw [hz2]; omega) (by omega) W
    rw [hz1] at this
    exact this
  clear hi hz0 hz1 hz2
  cases ov
  · have hm : ∀ W : World, (Instr.makeSlice 45 (.int .i64 100) (.int .i64 100)).run Try.prog W = .ok (.slice (some ⟨W.heap.size, 0, none⟩) 100 100) (W.alloc (.cells (madeCells #[.int .i64 0, .int .i64 0] 200) 76)) := fun W => hmk 100 (by decide) W
    clear hmk
    go_enter Try.func10, Try.ntmps10
    go_wp2_with fail
    refine (HA.out _).mono ?_
    rintro en w1 ⟨rfl, hb1⟩
    have HB1 := Lib.hid hb1
    clear hb1
    go_wp2_with fail
    refine (right_k 100 200 0 rfl (by decide) (by kernel_rfl)).mono ?_
    rintro en w2 ⟨rfl, hb2⟩
    have HB2 := Lib.hid (HB1.out.trans (hb2.mono HB1.out.size))
    clear hb2
    go_wp2_with fail
    refine (HN.out _ _).mono ?_
    rintro en w3 ⟨rfl, rfl⟩
    go_wp2
    go_ret
    exact ⟨rfl, HB2.out⟩
  · have hm : ∀ W : World, (Instr.makeSlice 45 (.int .i64 101) (.int .i64 101)).run Try.prog W = .ok (.slice (some ⟨W.heap.size, 0, none⟩) 101 101) (W.alloc (.cells (madeCells #[.int .i64 0, .int .i64 0] 202) 76)) := fun W => hmk 101 (by decide) W
    clear hmk
    go_enter Try.func10, Try.ntmps10
    go_wp2_with fail
    refine (HA.out _).mono ?_
    rintro en w1 ⟨rfl, hb1⟩
    have HB1 := Lib.hid hb1
    clear hb1
    go_wp2_with fail
    refine (right_k 101 202 9 rfl (by decide) (by kernel_rfl)).mono ?_
    rintro en w2 ⟨rfl, hb2⟩
    have HB2 := Lib.hid (HB1.out.trans (hb2.mono HB1.out.size))
    clear hb2
    go_wp2_with fail
    refine (HN.out _ _).mono ?_
    rintro en w3 ⟨rfl, rfl⟩
    go_wp2
    go_ret
    exact ⟨rfl, HB2.out⟩
end Go.Proofs.Yteipnfnbepnpjaa

/- ModuleLimits: what it makes. -/
import Derived.Test.YteipnfnbepnpjaaModAlive
namespace Go.Proofs.Yteipnfnbepnpjaa
open Go.RowKit Go.Maps
set_option linter.unusedVariables false
/-- a module whose rows are all alike -/
def lX (G : Int) (n1 n2 n3 : Nat) (b : Bool) (s : ByteArray) (p lo : Int) (ca : Option Addr) (cl : Nat) : ModX := { G := G, n1 := n1, c1 := n1, n2 := n2, c2 := n2, n3 := n3, c3 := n3, b := fun _ => b, z := fun _ => 0, s := fun _ => s, p := fun _ => p, lo := fun _ => lo, ca := fun _ => ca, cl := fun _ => cl, cc := fun _ => cl, fi := fun _ => 0, en := fun _ => 0 }
/-- one function -/
theorem lx_func {W : World} {gf cl n1 n3 : Nat} {t : TypeId} {G p lo : Int} {ca a1 a3 : Option Addr} {b : Bool} {s : ByteArray} (h : W.heap[gf]? = some (.cells #[.int .i64 p, .int .i64 lo, .slice ca cl cl] t (0, 0)))
    (h1 : Rows W a1 n1 n1 3 (lX G n1 1 n3 b s p lo ca cl).cF) (h3 : Rows W a3 n3 n3 2 (lX G n1 1 n3 b s p lo ca cl).kF) : ModS W (lX G n1 1 n3 b s p lo ca cl) a1 (some ⟨gf, 0, none⟩) a3 := by
  refine ⟨h1, ⟨Nat.le_refl _, (show 1 ≤ 9223372036854775807 by decide), fun e => (by cases e), fun i j hi hj => ?_⟩, h3⟩
  obtain rfl : i = 0 := by have : i < 1 := hi; omega
  refine ⟨gf, 0, rfl, (Array.getElem?_eq_some_iff.1 h).1, ?_⟩
  rcases (by omega : j = 0 ∨ j = 1 ∨ j = 2) with rfl | rfl | rfl <;> exact cell_of_block h
/-- how Right ends -/
def RtDone (e : Nat) (W : World) (en : Ending) (W' : World) : Prop := en = .returned (.int .i64 (e : Nat)) ∧ Below W.heap.size W W'
theorem five_blk (w1 : World) (A B C F M : Obj) : (((((w1.alloc A).alloc B).alloc C).alloc F).alloc M).heap[w1.heap.size + 1 + 1 + 1]? = some F := by
  rw [heap_alloc_lt _ _ (by simp only [size_alloc]; omega)]
  have := heap_alloc_at (((w1.alloc A).alloc B).alloc C) F
  simp only [size_alloc] at this
  exact this
theorem five_alloc (w1 : World) (A B C F M : Obj) : Below w1.heap.size w1 (((((w1.alloc A).alloc B).alloc C).alloc F).alloc M) :=
  (((((Below.refl _ _).alloc (Nat.le_refl _) _).alloc (by simp only [size_alloc]; omega) _).alloc (by simp only [size_alloc]; omega) _).alloc (by simp only [size_alloc]; omega) _).alloc (by simp only [size_alloc]; omega) _
theorem rt_below {w1 W W' : World} (h : Below w1.heap.size w1 W) {e : Nat} {en : Ending} (hr : RtDone e W en W') : en = .returned (.int .i64 (e : Nat)) ∧ Below w1.heap.size w1 W' := ⟨hr.1, h.trans (hr.2.mono h.size)⟩
theorem right_f {w1 : World} {A B C M : Obj} {G p lo : Int} {ca : Option Addr} {cl : Nat} (e : Nat) (he : (lX G 0 1 0 false ByteArray.empty p lo ca cl).rightE = e) :
    Calls Try.prog 30 #[.agg #[.int .i64 G, .slice none 0 0, .slice (some ⟨w1.heap.size + 1 + 1 + 1, 0, none⟩) 1 1, .slice none 0 0]] (((((w1.alloc A).alloc B).alloc C).alloc (.cells #[.int .i64 p, .int .i64 lo, .slice ca cl cl] 61)).alloc M) fun en w' => en = .returned (.int .i64 (e : Nat)) ∧ Below w1.heap.size w1 w' := by
  have h := right_any _ (lx_func (G := G) (b := false) (s := ByteArray.empty) (five_blk w1 A B C (.cells #[.int .i64 p, .int .i64 lo, .slice ca cl cl] 61) M) rows_none rows_none)
  rw [he] at h
  exact h.mono fun en w' hh => rt_below (five_alloc _ _ _ _ _ _) hh
set_option maxRecDepth 100000 in
set_option maxHeartbeats 4000000 in
theorem ml0 (ov : Bool) (w : World) : Calls Try.prog 10 #[.int .i64 0, .bool ov] w fun e w' => e = .returned (.bool true) ∧ Below w.heap.size w w' := by
  have HA := Lib.hid (fun w => alive20 w)
  have HN := Lib.hid (fun e w => num20_any e w)
  cases ov
  · go_enter Try.func10, Try.ntmps10
    go_wp2_with fail
    refine (HA.out _).mono ?_
    rintro en w1 ⟨rfl, hb1⟩
    have HB1 := Lib.hid hb1
    clear hb1
    go_wp2_with fail
    refine (right_f 0 rfl).mono ?_
    rintro en w2 ⟨rfl, hb2⟩
    have HB2 := Lib.hid (HB1.out.trans (hb2.mono HB1.out.size))
    clear hb2
    go_wp2_with fail
    refine (HN.out _ _).mono ?_
    rintro en w3 ⟨rfl, rfl⟩
    go_wp2
    go_ret
    exact ⟨rfl, HB2.out⟩
  · go_enter Try.func10, Try.ntmps10
    go_wp2_with fail
    refine (HA.out _).mono ?_
    rintro en w1 ⟨rfl, hb1⟩
    have HB1 := Lib.hid hb1
    clear hb1
    go_wp2_with fail
    refine (right_f 9 rfl).mono ?_
    rintro en w2 ⟨rfl, hb2⟩
    have HB2 := Lib.hid (HB1.out.trans (hb2.mono HB1.out.size))
    clear hb2
    go_wp2_with fail
    refine (HN.out _ _).mono ?_
    rintro en w3 ⟨rfl, rfl⟩
    go_wp2
    go_ret
    exact ⟨rfl, HB2.out⟩
set_option maxRecDepth 100000 in
set_option maxHeartbeats 4000000 in
theorem ml6 (ov : Bool) (w : World) : Calls Try.prog 10 #[.int .i64 6, .bool ov] w fun e w' => e = .returned (.bool true) ∧ Below w.heap.size w w' := by
  have HA := Lib.hid (fun w => alive20 w)
  have HN := Lib.hid (fun e w => num20_any e w)
  cases ov
  · go_enter Try.func10, Try.ntmps10
    go_wp2_with fail
    refine (HA.out _).mono ?_
    rintro en w1 ⟨rfl, hb1⟩
    have HB1 := Lib.hid hb1
    clear hb1
    go_wp2_with fail
    refine (right_f 0 rfl).mono ?_
    rintro en w2 ⟨rfl, hb2⟩
    have HB2 := Lib.hid (HB1.out.trans (hb2.mono HB1.out.size))
    clear hb2
    go_wp2_with fail
    refine (HN.out _ _).mono ?_
    rintro en w3 ⟨rfl, rfl⟩
    go_wp2
    go_ret
    exact ⟨rfl, HB2.out⟩
  · go_enter Try.func10, Try.ntmps10
    go_wp2_with fail
    refine (HA.out _).mono ?_
    rintro en w1 ⟨rfl, hb1⟩
    have HB1 := Lib.hid hb1
    clear hb1
    go_wp2_with fail
    refine (right_f 9 rfl).mono ?_
    rintro en w2 ⟨rfl, hb2⟩
    have HB2 := Lib.hid (HB1.out.trans (hb2.mono HB1.out.size))
    clear hb2
    go_wp2_with fail
    refine (HN.out _ _).mono ?_
    rintro en w3 ⟨rfl, rfl⟩
    go_wp2
    go_ret
    exact ⟨rfl, HB2.out⟩
set_option maxRecDepth 100000 in
set_option maxHeartbeats 4000000 in
theorem ml7 (ov : Bool) (w : World) : Calls Try.prog 10 #[.int .i64 7, .bool ov] w fun e w' => e = .returned (.bool true) ∧ Below w.heap.size w w' := by
  have HA := Lib.hid (fun w => alive20 w)
  have HN := Lib.hid (fun e w => num20_any e w)
  cases ov
  · go_enter Try.func10, Try.ntmps10
    go_wp2_with fail
    refine (HA.out _).mono ?_
    rintro en w1 ⟨rfl, hb1⟩
    have HB1 := Lib.hid hb1
    clear hb1
    go_wp2_with fail
    refine (right_f 0 rfl).mono ?_
    rintro en w2 ⟨rfl, hb2⟩
    have HB2 := Lib.hid (HB1.out.trans (hb2.mono HB1.out.size))
    clear hb2
    go_wp2_with fail
    refine (HN.out _ _).mono ?_
    rintro en w3 ⟨rfl, rfl⟩
    go_wp2
    go_ret
    exact ⟨rfl, HB2.out⟩
  · go_enter Try.func10, Try.ntmps10
    go_wp2_with fail
    refine (HA.out _).mono ?_
    rintro en w1 ⟨rfl, hb1⟩
    have HB1 := Lib.hid hb1
    clear hb1
    go_wp2_with fail
    refine (right_f 9 rfl).mono ?_
    rintro en w2 ⟨rfl, hb2⟩
    have HB2 := Lib.hid (HB1.out.trans (hb2.mono HB1.out.size))
    clear hb2
    go_wp2_with fail
    refine (HN.out _ _).mono ?_
    rintro en w3 ⟨rfl, rfl⟩
    go_wp2
    go_ret
    exact ⟨rfl, HB2.out⟩
end Go.Proofs.Yteipnfnbepnpjaa

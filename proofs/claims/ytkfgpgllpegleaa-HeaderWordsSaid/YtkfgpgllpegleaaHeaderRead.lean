/- header's Read computes what it says. -/
import Derived.Test.YtkfgpgllpegleaaHeader
namespace Go.Proofs.Ytkfgpgllpegleaa
open Go.RowKit
set_option linter.unusedVariables false

theorem bit_int (y : Nat) : ((y : Int) % 2 == 1) = (y % 2 == 1) := by
  rw [Bool.eq_iff_iff]
  simp
  omega
theorem bit_nat (y : Nat) : (((y % 2 : Nat) : Int) == 1) = (y % 2 == 1) := bit_int y
theorem hdrOf_int (x : Nat) : hdrOf x = hdrV ((x : Int) % 16) ((x : Int) / 16 % 65536) ((x : Int) / 1048576 % 65536) ((x : Int) / 68719476736 % 256) ((x : Int) / 17592186044416 % 4) ((x : Int) / 70368744177664 % 2 == 1) ((x : Int) / 140737488355328 % 2 == 1) := by
  have h1 := bit_int (x / 70368744177664)
  have h2 := bit_int (x / 140737488355328)
  rw [Int.natCast_ediv] at h1 h2
  unfold hdrOf
  rw [← h1, ← h2]
  rfl
theorem readRef_any (x : Nat) (hx : x < 18446744073709551616) (w : World) : Calls Try.prog 37 #[.int .u64 x] w fun e w' => e = .returned (hdrOf x) ∧ Below w.heap.size w w' := by
  rw [hdrOf_int]
  have h1 : bits .and .u64 (x : Int) 15 = ((x % 16 : Nat) : Int) := u64_and_mod (n := 4) hx (by decide)
  have h2 : bits .and .u64 ((x : Int) / 16) 65535 = ((x / 16 % 65536 : Nat) : Int) := u64_and_mod (y := x / 16) (n := 16) (by omega) (by decide)
  have h3 : bits .and .u64 ((x : Int) / 1048576) 65535 = ((x / 1048576 % 65536 : Nat) : Int) := u64_and_mod (y := x / 1048576) (n := 16) (by omega) (by decide)
  have h4 : bits .and .u64 ((x : Int) / 68719476736) 255 = ((x / 68719476736 % 256 : Nat) : Int) := u64_and_mod (y := x / 68719476736) (n := 8) (by omega) (by decide)
  have h5 : bits .and .u64 ((x : Int) / 17592186044416) 3 = ((x / 17592186044416 % 4 : Nat) : Int) := u64_and_mod (y := x / 17592186044416) (n := 2) (by omega) (by decide)
  have h6 : bits .and .u64 ((x : Int) / 70368744177664) 1 = ((x / 70368744177664 % 2 : Nat) : Int) := u64_and_mod (y := x / 70368744177664) (n := 1) (by omega) (by decide)
  have h7 : bits .and .u64 ((x : Int) / 140737488355328) 1 = ((x / 140737488355328 % 2 : Nat) : Int) := u64_and_mod (y := x / 140737488355328) (n := 1) (by omega) (by decide)
  go_enter Try.func37, Try.ntmps37
  go_wp2
  exact bodyPost_ret (v := hdrV ((x : Int) % 16) ((x : Int) / 16 % 65536) ((x : Int) / 1048576 % 65536) ((x : Int) / 68719476736 % 256) ((x : Int) / 17592186044416 % 4) ((x : Int) / 70368744177664 % 2 == 1) ((x : Int) / 140737488355328 % 2 == 1)) (by simp [results, Try.results37, go_sem, hdrV]) rfl ⟨rfl, (Below.refl _ _).alloc (Nat.le_refl _) _⟩
theorem part_any (x a n b c : Nat) (T1 T2 : TypeId) (w : World) (hx : x < 18446744073709551616) (ha : a + n ≤ 64) (hn : n ≤ 16) (hb : w.heap[b]? = some (.cells #[.int .u64 x] T1 (0, 0))) (hc : w.heap[c]? = some (.cells #[.int .i64 a] T2 (0, 0))) :
    Calls Try.prog 52 #[.int .i64 n, .pointer (some ⟨b, 0, none⟩), .pointer (some ⟨c, 0, none⟩)] w fun e w' => e = .returned (.int .i64 (x / 2 ^ a % 2 ^ n : Nat)) ∧ w'.heap[c]? = some (.cells #[.int .i64 (a + n : Nat)] T2 (0, 0)) ∧ Keeps [c] w w' := by
  have c1 : w.cell? ⟨b, 0, none⟩ = some (.int .u64 x) := by rw [cell_of_block hb]; rfl
  have c2 : w.cell? ⟨c, 0, none⟩ = some (.int .i64 a) := by rw [cell_of_block hc]; rfl
  have f2 : w.frozen? ⟨c, 0, none⟩ = false := free_of_block hc
  have HC := Lib.hid hc
  obtain ⟨r, hr⟩ : ∃ r, r = x / 2 ^ a % 2 ^ n := ⟨_, rfl⟩
  have hr2 : r < 65536 := by
    rw [hr]
    have h1 : x / 2 ^ a % 2 ^ n < 2 ^ n := Nat.mod_lt _ (Nat.two_pow_pos n)
    have h2 : 2 ^ n ≤ 2 ^ 16 := Nat.pow_le_pow_right (by decide) hn
    omega
  have G := Lib.hid (get_eq x a n r hx (by omega) (by omega) (by rw [hr]; exact GetS_div ha))
  rw [← hr]
  clear hr hb hc hx
  go_enter Try.func52, Try.ntmps52
  go_wp2_with fail
  refine (G.out _).mono ?_
  rintro e w' ⟨rfl, m, rfl⟩
  go_wp2_with fail
  go_ret
  refine ⟨rfl, ?_, ?_⟩
  · have := setCell_block (w := w.drewN m) (i := 0) (show (w.drewN m).heap[c]? = _ from HC.out) (.int .i64 ((a : Int) + n))
    simpa using this
  · exact ((Keeps.refl [c] w).drewN m).setCell (p := ⟨c, 0, none⟩) (.inl (List.mem_singleton_self c)) _
/-- where Read stands: s the word's block, behind it the answer's, the place's, the header's -/
structure RD (w0 : World) (s x a : Nat) (hs : Array Value) (w : World) : Prop where
  hx : w.heap[s]? = some (.cells #[.int .u64 x] 45 (0, 0))
  hr : w.heap[s + 1]? = some (.cells #[.int .i64 0, .int .i64 0, .int .i64 0, .int .i64 0, .int .i64 0, .bool false, .bool false] 43 (0, 0))
  ha : w.heap[s + 1 + 1]? = some (.cells #[.int .i64 a] 3 (0, 0))
  hh : w.heap[s + 1 + 1 + 1]? = some (.cells hs 43 (0, 0))
  bel : Below s w0 w
section
variable {w0 w : World} {s x a : Nat} {hs : Array Value}
theorem RD.part (h : RD w0 s x a hs w) (n r : Nat) (hx : x < 18446744073709551616) (ha : a + n ≤ 64) (hn : n ≤ 16) (hr : x / 2 ^ a % 2 ^ n = r) :
    Calls Try.prog 52 #[.int .i64 n, .pointer (some ⟨s, 0, none⟩), .pointer (some ⟨s + 1 + 1, 0, none⟩)] w fun e w' => e = .returned (.int .i64 (r : Nat)) ∧ RD w0 s x (a + n) hs w' := by
  refine (part_any x a n s (s + 1 + 1) _ _ w hx ha hn h.hx h.ha).mono ?_
  rintro e w' ⟨rfl, h1, h2⟩
  have lt := (Array.getElem?_eq_some_iff.1 h.hh).1
  exact ⟨by rw [hr], h2.at h.hx (by first | (simp; done) | (simp <;> omega)), h2.at h.hr (by first | (simp; done) | (simp <;> omega)), h1, h2.at h.hh (by first | (simp; done) | (simp <;> omega)), below_keeps h.bel h2 (by omega) (by simp <;> omega)⟩
theorem RD.store (h : RD w0 s x a hs w) (i : Nat) (u : Value) : RD w0 s x a (hs.setIfInBounds i u) (w.setCell ⟨s + 1 + 1 + 1, i, none⟩ u) :=
  ⟨(setCell_other u (by omega)).trans h.hx, (setCell_other u (by omega)).trans h.hr, (setCell_other u (by omega)).trans h.ha, setCell_block h.hh u, h.bel.setCell (p := ⟨s + 1 + 1 + 1, i, none⟩) (by show s ≤ s + 1 + 1 + 1; omega) u⟩
theorem RD.cell (h : RD w0 s x a hs w) (i : Nat) : w.cell? ⟨s + 1 + 1 + 1, i, none⟩ = hs[i]? := cell_of_block h.hh
theorem RD.free (h : RD w0 s x a hs w) (i : Nat) : w.frozen? ⟨s + 1 + 1 + 1, i, none⟩ = false := free_of_block h.hh
end
set_option maxRecDepth 100000 in
set_option maxHeartbeats 2000000 in
theorem read_at (x k c r n o z d : Nat) (hx : x < 18446744073709551616) (w : World) (hk : x / 2 ^ 0 % 2 ^ 4 = k) (hc : x / 2 ^ 4 % 2 ^ 16 = c) (hr : x / 2 ^ 20 % 2 ^ 16 = r) (hn : x / 2 ^ 36 % 2 ^ 8 = n) (ho : x / 2 ^ 44 % 2 ^ 2 = o) (hz : x / 2 ^ 46 % 2 ^ 1 = z) (hd : x / 2 ^ 47 % 2 ^ 1 = d) :
    Calls Try.prog 36 #[.int .u64 x] w fun e w' => e = .returned (hdrV k c r n o ((z : Int) == 1) ((d : Int) == 1)) ∧ Below w.heap.size w w' := by
  have Hk := Lib.hid hk
  have Hc := Lib.hid hc
  have Hr := Lib.hid hr
  have Hn := Lib.hid hn
  have Ho := Lib.hid ho
  have Hz := Lib.hid hz
  have Hd := Lib.hid hd
  have HX := Lib.hid hx
  clear hx hk hc hr hn ho hz hd
  have R0 : Hid (RD w w.heap.size x 0 #[.int .i64 0, .int .i64 0, .int .i64 0, .int .i64 0, .int .i64 0, .bool false, .bool false] ((((w.alloc (.cells #[.int .u64 x] 45)).alloc (.cells #[.int .i64 0, .int .i64 0, .int .i64 0, .int .i64 0, .int .i64 0, .bool false, .bool false] 43)).alloc (.cells #[.int .i64 0] 3)).alloc (.cells #[.int .i64 0, .int .i64 0, .int .i64 0, .int .i64 0, .int .i64 0, .bool false, .bool false] 43))) := by
    have b := ((((Below.refl w.heap.size w).alloc (Nat.le_refl _) (.cells #[.int .u64 x] 45)).alloc (by first | (simp; done) | (simp <;> omega)) (.cells #[.int .i64 0, .int .i64 0, .int .i64 0, .int .i64 0, .int .i64 0, .bool false, .bool false] 43)).alloc (by first | (simp; done) | (simp <;> omega)) (.cells #[.int .i64 0] 3)).alloc (by first | (simp; done) | (simp <;> omega)) (.cells #[.int .i64 0, .int .i64 0, .int .i64 0, .int .i64 0, .int .i64 0, .bool false, .bool false] 43)
    refine (show RD w w.heap.size x 0 _ _ from ⟨?_, ?_, ?_, ?_, b⟩)
    · rw [heap_alloc_lt _ _ (by first | (simp; done) | (simp <;> omega)), heap_alloc_lt _ _ (by first | (simp; done) | (simp <;> omega)), heap_alloc_lt _ _ (by first | (simp; done) | (simp <;> omega)), heap_alloc_at]
    · rw [heap_alloc_lt _ _ (by first | (simp; done) | (simp <;> omega)), heap_alloc_lt _ _ (by first | (simp; done) | (simp <;> omega))]
      have := heap_alloc_at (w.alloc (.cells #[.int .u64 x] 45)) (.cells #[.int .i64 0, .int .i64 0, .int .i64 0, .int .i64 0, .int .i64 0, .bool false, .bool false] 43)
      rwa [size_alloc] at this
    · rw [heap_alloc_lt _ _ (by first | (simp; done) | (simp <;> omega))]
      have := heap_alloc_at ((w.alloc (.cells #[.int .u64 x] 45)).alloc (.cells #[.int .i64 0, .int .i64 0, .int .i64 0, .int .i64 0, .int .i64 0, .bool false, .bool false] 43)) (.cells #[.int .i64 0] 3)
      rwa [size_alloc, size_alloc] at this
    · have := heap_alloc_at (((w.alloc (.cells #[.int .u64 x] 45)).alloc (.cells #[.int .i64 0, .int .i64 0, .int .i64 0, .int .i64 0, .int .i64 0, .bool false, .bool false] 43)).alloc (.cells #[.int .i64 0] 3)) (.cells #[.int .i64 0, .int .i64 0, .int .i64 0, .int .i64 0, .int .i64 0, .bool false, .bool false] 43)
      rwa [size_alloc, size_alloc, size_alloc] at this
  go_enter Try.func36, Try.ntmps36
  go_wp2_with fail
  refine (RD.part (R0.out) 4 k HX.out (by decide) (by decide) Hk.out).mono ?_
  rintro e w1 ⟨rfl, hq1⟩
  have q1 := hq1.cell 0
  have p1 := hq1.free 0
  rw [show (#[.int .i64 0, .int .i64 0, .int .i64 0, .int .i64 0, .int .i64 0, .bool false, .bool false] : Array Value)[0]? = some (.int .i64 0) from rfl] at q1
  have R1 : Hid (RD w w.heap.size x 4 #[.int .i64 (k : Nat), .int .i64 0, .int .i64 0, .int .i64 0, .int .i64 0, .bool false, .bool false] (w1.setCell ⟨w.heap.size + 1 + 1 + 1, 0, none⟩ (.int .i64 (k : Nat)))) := hq1.store 0 _
  clear hq1
  go_wp2_with fail
  refine (RD.part (R1.out) 16 c HX.out (by decide) (by decide) Hc.out).mono ?_
  rintro e w2 ⟨rfl, hq2⟩
  have q2 := hq2.cell 1
  have p2 := hq2.free 1
  rw [show (#[.int .i64 (k : Nat), .int .i64 0, .int .i64 0, .int .i64 0, .int .i64 0, .bool false, .bool false] : Array Value)[1]? = some (.int .i64 0) from rfl] at q2
  have R2 : Hid (RD w w.heap.size x 20 #[.int .i64 (k : Nat), .int .i64 (c : Nat), .int .i64 0, .int .i64 0, .int .i64 0, .bool false, .bool false] (w2.setCell ⟨w.heap.size + 1 + 1 + 1, 1, none⟩ (.int .i64 (c : Nat)))) := hq2.store 1 _
  clear hq2
  go_wp2_with fail
  refine (RD.part (R2.out) 16 r HX.out (by decide) (by decide) Hr.out).mono ?_
  rintro e w3 ⟨rfl, hq3⟩
  have q3 := hq3.cell 2
  have p3 := hq3.free 2
  rw [show (#[.int .i64 (k : Nat), .int .i64 (c : Nat), .int .i64 0, .int .i64 0, .int .i64 0, .bool false, .bool false] : Array Value)[2]? = some (.int .i64 0) from rfl] at q3
  have R3 : Hid (RD w w.heap.size x 36 #[.int .i64 (k : Nat), .int .i64 (c : Nat), .int .i64 (r : Nat), .int .i64 0, .int .i64 0, .bool false, .bool false] (w3.setCell ⟨w.heap.size + 1 + 1 + 1, 2, none⟩ (.int .i64 (r : Nat)))) := hq3.store 2 _
  clear hq3
  go_wp2_with fail
  refine (RD.part (R3.out) 8 n HX.out (by decide) (by decide) Hn.out).mono ?_
  rintro e w4 ⟨rfl, hq4⟩
  have q4 := hq4.cell 3
  have p4 := hq4.free 3
  rw [show (#[.int .i64 (k : Nat), .int .i64 (c : Nat), .int .i64 (r : Nat), .int .i64 0, .int .i64 0, .bool false, .bool false] : Array Value)[3]? = some (.int .i64 0) from rfl] at q4
  have R4 : Hid (RD w w.heap.size x 44 #[.int .i64 (k : Nat), .int .i64 (c : Nat), .int .i64 (r : Nat), .int .i64 (n : Nat), .int .i64 0, .bool false, .bool false] (w4.setCell ⟨w.heap.size + 1 + 1 + 1, 3, none⟩ (.int .i64 (n : Nat)))) := hq4.store 3 _
  clear hq4
  go_wp2_with fail
  refine (RD.part (R4.out) 2 o HX.out (by decide) (by decide) Ho.out).mono ?_
  rintro e w5 ⟨rfl, hq5⟩
  have q5 := hq5.cell 4
  have p5 := hq5.free 4
  rw [show (#[.int .i64 (k : Nat), .int .i64 (c : Nat), .int .i64 (r : Nat), .int .i64 (n : Nat), .int .i64 0, .bool false, .bool false] : Array Value)[4]? = some (.int .i64 0) from rfl] at q5
  have R5 : Hid (RD w w.heap.size x 46 #[.int .i64 (k : Nat), .int .i64 (c : Nat), .int .i64 (r : Nat), .int .i64 (n : Nat), .int .i64 (o : Nat), .bool false, .bool false] (w5.setCell ⟨w.heap.size + 1 + 1 + 1, 4, none⟩ (.int .i64 (o : Nat)))) := hq5.store 4 _
  clear hq5
  go_wp2_with fail
  refine (RD.part (R5.out) 1 z HX.out (by decide) (by decide) Hz.out).mono ?_
  rintro e w6 ⟨rfl, hq6⟩
  have q6 := hq6.cell 5
  have p6 := hq6.free 5
  rw [show (#[.int .i64 (k : Nat), .int .i64 (c : Nat), .int .i64 (r : Nat), .int .i64 (n : Nat), .int .i64 (o : Nat), .bool false, .bool false] : Array Value)[5]? = some (.bool false) from rfl] at q6
  have R6 : Hid (RD w w.heap.size x 47 #[.int .i64 (k : Nat), .int .i64 (c : Nat), .int .i64 (r : Nat), .int .i64 (n : Nat), .int .i64 (o : Nat), .bool ((z : Int) == 1), .bool false] (w6.setCell ⟨w.heap.size + 1 + 1 + 1, 5, none⟩ (.bool ((z : Int) == 1)))) := hq6.store 5 _
  clear hq6
  go_wp2_with fail
  refine (RD.part (R6.out) 1 d HX.out (by decide) (by decide) Hd.out).mono ?_
  rintro e w7 ⟨rfl, hq7⟩
  have q7 := hq7.cell 6
  have p7 := hq7.free 6
  rw [show (#[.int .i64 (k : Nat), .int .i64 (c : Nat), .int .i64 (r : Nat), .int .i64 (n : Nat), .int .i64 (o : Nat), .bool ((z : Int) == 1), .bool false] : Array Value)[6]? = some (.bool false) from rfl] at q7
  have R7 : Hid (RD w w.heap.size x 48 #[.int .i64 (k : Nat), .int .i64 (c : Nat), .int .i64 (r : Nat), .int .i64 (n : Nat), .int .i64 (o : Nat), .bool ((z : Int) == 1), .bool ((d : Int) == 1)] (w7.setCell ⟨w.heap.size + 1 + 1 + 1, 6, none⟩ (.bool ((d : Int) == 1)))) := hq7.store 6 _
  have u0 := hq7.cell 0
  rw [show (#[.int .i64 (k : Nat), .int .i64 (c : Nat), .int .i64 (r : Nat), .int .i64 (n : Nat), .int .i64 (o : Nat), .bool ((z : Int) == 1), .bool false] : Array Value)[0]? = some (.int .i64 (k : Nat)) from rfl] at u0
  have u1 := hq7.cell 1
  rw [show (#[.int .i64 (k : Nat), .int .i64 (c : Nat), .int .i64 (r : Nat), .int .i64 (n : Nat), .int .i64 (o : Nat), .bool ((z : Int) == 1), .bool false] : Array Value)[1]? = some (.int .i64 (c : Nat)) from rfl] at u1
  have u2 := hq7.cell 2
  rw [show (#[.int .i64 (k : Nat), .int .i64 (c : Nat), .int .i64 (r : Nat), .int .i64 (n : Nat), .int .i64 (o : Nat), .bool ((z : Int) == 1), .bool false] : Array Value)[2]? = some (.int .i64 (r : Nat)) from rfl] at u2
  have u3 := hq7.cell 3
  rw [show (#[.int .i64 (k : Nat), .int .i64 (c : Nat), .int .i64 (r : Nat), .int .i64 (n : Nat), .int .i64 (o : Nat), .bool ((z : Int) == 1), .bool false] : Array Value)[3]? = some (.int .i64 (n : Nat)) from rfl] at u3
  have u4 := hq7.cell 4
  rw [show (#[.int .i64 (k : Nat), .int .i64 (c : Nat), .int .i64 (r : Nat), .int .i64 (n : Nat), .int .i64 (o : Nat), .bool ((z : Int) == 1), .bool false] : Array Value)[4]? = some (.int .i64 (o : Nat)) from rfl] at u4
  have u5 := hq7.cell 5
  rw [show (#[.int .i64 (k : Nat), .int .i64 (c : Nat), .int .i64 (r : Nat), .int .i64 (n : Nat), .int .i64 (o : Nat), .bool ((z : Int) == 1), .bool false] : Array Value)[5]? = some (.bool ((z : Int) == 1)) from rfl] at u5
  have t0 : w7.cell? ⟨w.heap.size + 1, 0, none⟩ = some (.int .i64 0) := by rw [cell_of_block hq7.hr]; rfl
  have g0 : w7.frozen? ⟨w.heap.size + 1, 0, none⟩ = false := free_of_block hq7.hr
  have t1 : w7.cell? ⟨w.heap.size + 1, 1, none⟩ = some (.int .i64 0) := by rw [cell_of_block hq7.hr]; rfl
  have g1 : w7.frozen? ⟨w.heap.size + 1, 1, none⟩ = false := free_of_block hq7.hr
  have t2 : w7.cell? ⟨w.heap.size + 1, 2, none⟩ = some (.int .i64 0) := by rw [cell_of_block hq7.hr]; rfl
  have g2 : w7.frozen? ⟨w.heap.size + 1, 2, none⟩ = false := free_of_block hq7.hr
  have t3 : w7.cell? ⟨w.heap.size + 1, 3, none⟩ = some (.int .i64 0) := by rw [cell_of_block hq7.hr]; rfl
  have g3 : w7.frozen? ⟨w.heap.size + 1, 3, none⟩ = false := free_of_block hq7.hr
  have t4 : w7.cell? ⟨w.heap.size + 1, 4, none⟩ = some (.int .i64 0) := by rw [cell_of_block hq7.hr]; rfl
  have g4 : w7.frozen? ⟨w.heap.size + 1, 4, none⟩ = false := free_of_block hq7.hr
  have t5 : w7.cell? ⟨w.heap.size + 1, 5, none⟩ = some (.bool false) := by rw [cell_of_block hq7.hr]; rfl
  have g5 : w7.frozen? ⟨w.heap.size + 1, 5, none⟩ = false := free_of_block hq7.hr
  have t6 : w7.cell? ⟨w.heap.size + 1, 6, none⟩ = some (.bool false) := by rw [cell_of_block hq7.hr]; rfl
  have g6 : w7.frozen? ⟨w.heap.size + 1, 6, none⟩ = false := free_of_block hq7.hr
  clear hq7
  go_wp2_with fail
  exact bodyPost_ret (v := hdrV k c r n o ((z : Int) == 1) ((d : Int) == 1)) (by simp [results, Try.results36, go_sem, hdrV, t0, t1, t2, t3, t4, t5, t6]) rfl ⟨rfl, (((((((R7.out.bel.setCell (p := ⟨w.heap.size + 1, 0, none⟩) (Nat.le_succ _) _).setCell (p := ⟨w.heap.size + 1, 1, none⟩) (Nat.le_succ _) _).setCell (p := ⟨w.heap.size + 1, 2, none⟩) (Nat.le_succ _) _).setCell (p := ⟨w.heap.size + 1, 3, none⟩) (Nat.le_succ _) _).setCell (p := ⟨w.heap.size + 1, 4, none⟩) (Nat.le_succ _) _).setCell (p := ⟨w.heap.size + 1, 5, none⟩) (Nat.le_succ _) _).setCell (p := ⟨w.heap.size + 1, 6, none⟩) (Nat.le_succ _) _)⟩
theorem read_any (x : Nat) (hx : x < 18446744073709551616) (w : World) : Calls Try.prog 36 #[.int .u64 x] w fun e w' => e = .returned (hdrOf x) ∧ Below w.heap.size w w' := by
  have h := read_at x (x % 16) (x / 16 % 65536) (x / 1048576 % 65536) (x / 68719476736 % 256) (x / 17592186044416 % 4) (x / 70368744177664 % 2) (x / 140737488355328 % 2) hx w (by simp) rfl rfl rfl rfl rfl rfl
  rw [bit_nat, bit_nat] at h
  exact h
end Go.Proofs.Ytkfgpgllpegleaa

/- The walk of the law VerifyWrong: it answers true for every input. -/
import Derived.Test.YteipnfnbepnpjaaVerRun
import Derived.Test.YteipnfnbepnpjaaAccB
import Derived.Deep.RegionHeld3
namespace Go.Proofs.Yteipnfnbepnpjaa
open Go.RowKit Go.Maps
set_option linter.unusedVariables false

/-- many blocks, made one behind the other -/
def allocs (w : World) (l : List Obj) : World := l.foldl World.alloc w
theorem allocs_facts : ∀ (l : List Obj) (w : World), (allocs w l).heap.size = w.heap.size + l.length ∧ Below w.heap.size w (allocs w l) ∧ ∀ i, i < l.length → (allocs w l).heap[w.heap.size + i]? = l[i]?
  | [], w => ⟨rfl, Below.refl _ _, fun i hi => absurd hi (by simp)⟩
  | o :: l, w => by
    obtain ⟨h1, h2, h3⟩ := allocs_facts l (w.alloc o)
    have hs := size_alloc w o
    have hb : Below w.heap.size w (w.alloc o) := (Below.refl _ _).alloc (Nat.le_refl _) _
    refine ⟨?_, hb.trans (h2.mono (by omega)), fun i hi => ?_⟩
    · show (allocs (w.alloc o) l).heap.size = _
      rw [h1, hs, List.length_cons]; omega
    · show (allocs (w.alloc o) l).heap[w.heap.size + i]? = _
      cases i with
      | zero => exact (h2.block w.heap.size (by omega)).trans (heap_alloc_at _ _)
      | succ i =>
        have := h3 i (by rw [List.length_cons] at hi; omega)
        rw [hs] at this
        rw [show w.heap.size + (i + 1) = w.heap.size + 1 + i by omega, this]
        rfl
def wrongL : List (List Nat) := [[], [0], [22], [2, 5], [2, 22], [19, 1, 0], [19, 0, 0], [1, 0, 22], [7, 0, 22], [2, 8, 9, 2, 22], [9, 0, 22], [21, 1, 22], [2, 21, 0, 22], [29, 0, 22], [2, 20, 6, 0, 2, 2, 22], [2, 20, 5, 0, 2, 22], [40, 3, 0, 2, 22], [40, 5, 0, 2, 22, 22], [2, 39], [2, 39, 0], [44], [1], [11, 22], [2, 2, 11, 22], [6, 22], [35, 0, 1, 22], [2, 19, 0, 0], [0, 19, 0, 0]]
def wantL : List Nat := [11, 11, 10, 11, 0, 11, 0, 12, 12, 12, 12, 12, 0, 12, 10, 10, 10, 0, 0, 0, 8, 7, 10, 0, 10, 12, 10, 0]
def atL : List Nat := [0, 0, 0, 1, 0, 0, 0, 0, 0, 1, 0, 0, 0, 0, 6, 5, 3, 0, 0, 0, 0, 0, 0, 0, 0, 0, 0, 0]
theorem wrong_runs : ∀ k, k < 28 → funcN 40 0 (byL (wrongL[k]?.getD [])) (wrongL[k]?.getD []).length = some (atL[k]?.getD 0, wantL[k]?.getD 0) := by decide
theorem wrong_small : ∀ k, k < 28 → (∀ y ∈ wrongL[k]?.getD [], y < 256) ∧ (wrongL[k]?.getD []).length ≤ 7 ∧ (wantL[k]?.getD 0 = 0 → atL[k]?.getD 0 = 0) := by decide
/-- the slices of the codes -/
def slcs (n : Nat) : List (List Nat) → List Value
  | [] => []
  | c :: l => .slice (some ⟨n, 0, none⟩) c.length c.length :: slcs (n + 1) l
theorem slcs_at : ∀ (l : List (List Nat)) (n i : Nat), i < l.length → (slcs n l)[i]? = some (.slice (some ⟨n + i, 0, none⟩) (l[i]?.getD []).length (l[i]?.getD []).length)
  | [], n, i, h => absurd h (by simp)
  | c :: l, n, 0, h => rfl
  | c :: l, n, i + 1, h => by
    have := slcs_at l (n + 1) i (by simpa using h)
    show (slcs (n + 1) l)[i]? = _
    rw [this, show n + 1 + i = n + (i + 1) by omega]
    rfl
def wrongO (n : Nat) : List Obj := wrongL.map (fun c => Obj.cells (byteCells c).toArray 5) ++ [.cells (slcs n wrongL).toArray 26, .cells (natC wantL).toArray 3, .cells (natC atL).toArray 3]
theorem natC_get {l : List Nat} {i : Nat} (h : i < l.length) : (natC l).toArray[i]? = some (.int .i64 ((l[i]?.getD 0 : Nat) : Int)) := by
  rw [List.getElem?_toArray]; unfold natC intC; rw [List.getElem?_map, List.getElem?_map, List.getElem?_eq_getElem h]; rfl
theorem wrong_facts (w : World) (k : Nat) (hk : k < 28) : (allocs w (wrongO w.heap.size)).heap[w.heap.size + k]? = some (.cells (byteCells (wrongL[k]?.getD [])).toArray 5 (0, 0)) ∧
    (allocs w (wrongO w.heap.size)).cell? ⟨w.heap.size + 28, k, none⟩ = some (.slice (some ⟨w.heap.size + k, 0, none⟩) (wrongL[k]?.getD []).length (wrongL[k]?.getD []).length) ∧
    (allocs w (wrongO w.heap.size)).cell? ⟨w.heap.size + 29, k, none⟩ = some (.int .i64 ((wantL[k]?.getD 0 : Nat) : Int)) ∧ (allocs w (wrongO w.heap.size)).cell? ⟨w.heap.size + 30, k, none⟩ = some (.int .i64 ((atL[k]?.getD 0 : Nat) : Int)) ∧
    (allocs w (wrongO w.heap.size)).heap.size = w.heap.size + 31 ∧ Below w.heap.size w (allocs w (wrongO w.heap.size)) := by
  obtain ⟨h1, h2, h3⟩ := allocs_facts (wrongO w.heap.size) w
  have hl : (wrongO w.heap.size).length = 31 := rfl
  rw [hl] at h1 h3
  have e0 := h3 k (by omega)
  have e28 := h3 28 (by omega)
  have e29 := h3 29 (by omega)
  have e30 := h3 30 (by omega)
  refine ⟨e0.trans ?_, (cell_of_block e28).trans ?_, (cell_of_block e29).trans (natC_get hk), (cell_of_block e30).trans (natC_get hk), h1, h2⟩
  · unfold wrongO
    rw [List.getElem?_append_left (by rw [List.length_map]; exact hk), List.getElem?_map, List.getElem?_eq_getElem (show k < wrongL.length from hk)]
    rfl
  · rw [List.getElem?_toArray]; exact slcs_at wrongL w.heap.size k hk
-- LITERAL
set_option maxRecDepth 100000 in
theorem wrong_lit (w : World) : allocs w (wrongO w.heap.size) = (((((((((((((((((((((((((((((((w.alloc (.cells #[] 5)).alloc (.cells #[.int .u8 0] 5)).alloc (.cells #[.int .u8 22] 5)).alloc (.cells #[.int .u8 2, .int .u8 5] 5)).alloc (.cells #[.int .u8 2, .int .u8 22] 5)).alloc (.cells #[.int .u8 19, .int .u8 1, .int .u8 0] 5)).alloc (.cells #[.int .u8 19, .int .u8 0, .int .u8 0] 5)).alloc (.cells #[.int .u8 1, .int .u8 0, .int .u8 22] 5)).alloc (.cells #[.int .u8 7, .int .u8 0, .int .u8 22] 5)).alloc (.cells #[.int .u8 2, .int .u8 8, .int .u8 9, .int .u8 2, .int .u8 22] 5)).alloc (.cells #[.int .u8 9, .int .u8 0, .int .u8 22] 5)).alloc (.cells #[.int .u8 21, .int .u8 1, .int .u8 22] 5)).alloc (.cells #[.int .u8 2, .int .u8 21, .int .u8 0, .int .u8 22] 5)).alloc (.cells #[.int .u8 29, .int .u8 0, .int .u8 22] 5)).alloc (.cells #[.int .u8 2, .int .u8 20, .int .u8 6, .int .u8 0, .int .u8 2, .int .u8 2, .int .u8 22] 5)).alloc (.cells #[.int .u8 2, .int .u8 20, .int .u8 5, .int .u8 0, .int .u8 2, .int .u8 22] 5)).alloc (.cells #[.int .u8 40, .int .u8 3, .int .u8 0, .int .u8 2, .int .u8 22] 5)).alloc (.cells #[.int .u8 40, .int .u8 5, .int .u8 0, .int .u8 2, .int .u8 22, .int .u8 22] 5)).alloc (.cells #[.int .u8 2, .int .u8 39] 5)).alloc (.cells #[.int .u8 2, .int .u8 39, .int .u8 0] 5)).alloc (.cells #[.int .u8 44] 5)).alloc (.cells #[.int .u8 1] 5)).alloc (.cells #[.int .u8 11, .int .u8 22] 5)).alloc (.cells #[.int .u8 2, .int .u8 2, .int .u8 11, .int .u8 22] 5)).alloc (.cells #[.int .u8 6, .int .u8 22] 5)).alloc (.cells #[.int .u8 35, .int .u8 0, .int .u8 1, .int .u8 22] 5)).alloc (.cells #[.int .u8 2, .int .u8 19, .int .u8 0, .int .u8 0] 5)).alloc (.cells #[.int .u8 0, .int .u8 19, .int .u8 0, .int .u8 0] 5)).alloc (.cells #[.slice (some ⟨w.heap.size, 0, none⟩) 0 0, .slice (some ⟨w.heap.size + 1, 0, none⟩) 1 1, .slice (some ⟨w.heap.size + 1 + 1, 0, none⟩) 1 1, .slice (some ⟨w.heap.size + 1 + 1 + 1, 0, none⟩) 2 2, .slice (some ⟨w.heap.size + 1 + 1 + 1 + 1, 0, none⟩) 2 2, .slice (some ⟨w.heap.size + 1 + 1 + 1 + 1 + 1, 0, none⟩) 3 3, .slice (some ⟨w.heap.size + 1 + 1 + 1 + 1 + 1 + 1, 0, none⟩) 3 3, .slice (some ⟨w.heap.size + 1 + 1 + 1 + 1 + 1 + 1 + 1, 0, none⟩) 3 3, .slice (some ⟨w.heap.size + 1 + 1 + 1 + 1 + 1 + 1 + 1 + 1, 0, none⟩) 3 3, .slice (some ⟨w.heap.size + 1 + 1 + 1 + 1 + 1 + 1 + 1 + 1 + 1, 0, none⟩) 5 5, .slice (some ⟨w.heap.size + 1 + 1 + 1 + 1 + 1 + 1 + 1 + 1 + 1 + 1, 0, none⟩) 3 3, .slice (some ⟨w.heap.size + 1 + 1 + 1 + 1 + 1 + 1 + 1 + 1 + 1 + 1 + 1, 0, none⟩) 3 3, .slice (some ⟨w.heap.size + 1 + 1 + 1 + 1 + 1 + 1 + 1 + 1 + 1 + 1 + 1 + 1, 0, none⟩) 4 4, .slice (some ⟨w.heap.size + 1 + 1 + 1 + 1 + 1 + 1 + 1 + 1 + 1 + 1 + 1 + 1 + 1, 0, none⟩) 3 3, .slice (some ⟨w.heap.size + 1 + 1 + 1 + 1 + 1 + 1 + 1 + 1 + 1 + 1 + 1 + 1 + 1 + 1, 0, none⟩) 7 7, .slice (some ⟨w.heap.size + 1 + 1 + 1 + 1 + 1 + 1 + 1 + 1 + 1 + 1 + 1 + 1 + 1 + 1 + 1, 0, none⟩) 6 6, .slice (some ⟨w.heap.size + 1 + 1 + 1 + 1 + 1 + 1 + 1 + 1 + 1 + 1 + 1 + 1 + 1 + 1 + 1 + 1, 0, none⟩) 5 5, .slice (some ⟨w.heap.size + 1 + 1 + 1 + 1 + 1 + 1 + 1 + 1 + 1 + 1 + 1 + 1 + 1 + 1 + 1 + 1 + 1, 0, none⟩) 6 6, .slice (some ⟨w.heap.size + 1 + 1 + 1 + 1 + 1 + 1 + 1 + 1 + 1 + 1 + 1 + 1 + 1 + 1 + 1 + 1 + 1 + 1, 0, none⟩) 2 2, .slice (some ⟨w.heap.size + 1 + 1 + 1 + 1 + 1 + 1 + 1 + 1 + 1 + 1 + 1 + 1 + 1 + 1 + 1 + 1 + 1 + 1 + 1, 0, none⟩) 3 3, .slice (some ⟨w.heap.size + 1 + 1 + 1 + 1 + 1 + 1 + 1 + 1 + 1 + 1 + 1 + 1 + 1 + 1 + 1 + 1 + 1 + 1 + 1 + 1, 0, none⟩) 1 1, .slice (some ⟨w.heap.size + 1 + 1 + 1 + 1 + 1 + 1 + 1 + 1 + 1 + 1 + 1 + 1 + 1 + 1 + 1 + 1 + 1 + 1 + 1 + 1 + 1, 0, none⟩) 1 1, .slice (some ⟨w.heap.size + 1 + 1 + 1 + 1 + 1 + 1 + 1 + 1 + 1 + 1 + 1 + 1 + 1 + 1 + 1 + 1 + 1 + 1 + 1 + 1 + 1 + 1, 0, none⟩) 2 2, .slice (some ⟨w.heap.size + 1 + 1 + 1 + 1 + 1 + 1 + 1 + 1 + 1 + 1 + 1 + 1 + 1 + 1 + 1 + 1 + 1 + 1 + 1 + 1 + 1 + 1 + 1, 0, none⟩) 4 4, .slice (some ⟨w.heap.size + 1 + 1 + 1 + 1 + 1 + 1 + 1 + 1 + 1 + 1 + 1 + 1 + 1 + 1 + 1 + 1 + 1 + 1 + 1 + 1 + 1 + 1 + 1 + 1, 0, none⟩) 2 2, .slice (some ⟨w.heap.size + 1 + 1 + 1 + 1 + 1 + 1 + 1 + 1 + 1 + 1 + 1 + 1 + 1 + 1 + 1 + 1 + 1 + 1 + 1 + 1 + 1 + 1 + 1 + 1 + 1, 0, none⟩) 4 4, .slice (some ⟨w.heap.size + 1 + 1 + 1 + 1 + 1 + 1 + 1 + 1 + 1 + 1 + 1 + 1 + 1 + 1 + 1 + 1 + 1 + 1 + 1 + 1 + 1 + 1 + 1 + 1 + 1 + 1, 0, none⟩) 4 4, .slice (some ⟨w.heap.size + 1 + 1 + 1 + 1 + 1 + 1 + 1 + 1 + 1 + 1 + 1 + 1 + 1 + 1 + 1 + 1 + 1 + 1 + 1 + 1 + 1 + 1 + 1 + 1 + 1 + 1 + 1, 0, none⟩) 4 4] 26)).alloc (.cells #[.int .i64 11, .int .i64 11, .int .i64 10, .int .i64 11, .int .i64 0, .int .i64 11, .int .i64 0, .int .i64 12, .int .i64 12, .int .i64 12, .int .i64 12, .int .i64 12, .int .i64 0, .int .i64 12, .int .i64 10, .int .i64 10, .int .i64 10, .int .i64 0, .int .i64 0, .int .i64 0, .int .i64 8, .int .i64 7, .int .i64 10, .int .i64 0, .int .i64 10, .int .i64 12, .int .i64 10, .int .i64 0] 3)).alloc (.cells #[.int .i64 0, .int .i64 0, .int .i64 0, .int .i64 1, .int .i64 0, .int .i64 0, .int .i64 0, .int .i64 0, .int .i64 0, .int .i64 1, .int .i64 0, .int .i64 0, .int .i64 0, .int .i64 0, .int .i64 6, .int .i64 5, .int .i64 3, .int .i64 0, .int .i64 0, .int .i64 0, .int .i64 0, .int .i64 0, .int .i64 0, .int .i64 0, .int .i64 0, .int .i64 0, .int .i64 0, .int .i64 0] 3)) := rfl
set_option maxRecDepth 100000 in
set_option maxHeartbeats 8000000 in
theorem verifyWrong.out (a0 : Int) (w : World) (h : a0 < 0 ∨ 28 ≤ a0) :
    Calls Try.prog 11 #[.int .i64 a0] w fun e w' => e = .returned (.bool true) ∧ Below w.heap.size w w' := by
  have HF := Lib.hid (fun (w1 : World) => (wrong_facts w1 0 (by decide)).2.2.2.2.2)
  rcases (by omega : a0 < 0 ∨ (0 ≤ a0 ∧ 28 ≤ a0)) with h | h
  all_goals
    go_enter Try.func11, Try.ntmps11
    go_wp2_with fail
    refine (alive21 _).mono ?_
    rintro e w1 ⟨rfl, hb⟩
    have HB := Lib.hid (hb.trans ((HF.out w1).mono hb.size))
    clear hb
    go_wp2
    go_ret
    exact ⟨rfl, HB.out⟩
set_option maxRecDepth 100000 in
set_option maxHeartbeats 8000000 in
theorem verifyWrong.inside (k : Nat) (w : World) (hk : k < 28) :
    Calls Try.prog 11 #[.int .i64 (k : Nat)] w fun e w' => e = .returned (.bool true) ∧ Below w.heap.size w w' := by
  have i0 : (0 : Int) ≤ (k : Int) := by omega
  have i1 : (k : Int) < 28 := by omega
  have i2 : decide ((k : Int) < 0) = false := by rw [decide_eq_false_iff_not]; omega
  have i3 : decide ((28 : Int) ≤ (k : Int)) = false := by rw [decide_eq_false_iff_not]; omega
  have HA := Lib.hid (fun w => alive21 w)
  have HN := Lib.hid (fun e w => num21_any e w)
  have HF := Lib.hid (fun (w1 : World) => wrong_facts w1 k hk)
  obtain ⟨s1, s2, s3⟩ := wrong_small k hk
  have HV := Lib.hid (fun (W : World) (fb : Nat) (ca : Option Addr) (f : FunAt W fb 0 ca (wrongL[k]?.getD []).length (wrongL[k]?.getD []).length) (hb : Bys W ca (wrongL[k]?.getD []).length (wrongL[k]?.getD []).length (byL (wrongL[k]?.getD []))) => verCheck_any 40 _ _ W f hb (by omega) (by omega) (by omega) (wrong_runs k hk) s3)
  unfold VerDone at HV
  have HS1 := Lib.hid s1
  clear hk s1 s3
  go_enter Try.func11, Try.ntmps11
  go_wp2_with fail
  refine (HA.out _).mono ?_
  rintro en w1 ⟨rfl, hb1⟩
  have HB1 := Lib.hid hb1
  obtain ⟨f0, f1, f2, f3, f4, f5⟩ := HF.out w1
  rw [wrong_lit] at f0 f1 f2 f3 f4 f5
  have HF0 := Lib.hid f0
  have HF2 := Lib.hid f2
  have HF3 := Lib.hid f3
  have HF4 := Lib.hid f4
  have HF5 := Lib.hid f5
  have HF1 := Lib.hid f1
  clear hb1 f0 f1 f2 f3 f4 f5
  generalize hcl : wrongL[k]?.getD [] = cl at HF0 HF1 HV HS1 s2
  generalize wantL[k]?.getD 0 = wn at HF2 HV
  generalize atL[k]?.getD 0 = an at HF3 HV
  have h28 : ((((((((((((((((((((((((((((((((w1.alloc (.cells #[] 5)).alloc (.cells #[.int .u8 0] 5)).alloc (.cells #[.int .u8 22] 5)).alloc (.cells #[.int .u8 2, .int .u8 5] 5)).alloc (.cells #[.int .u8 2, .int .u8 22] 5)).alloc (.cells #[.int .u8 19, .int .u8 1, .int .u8 0] 5)).alloc (.cells #[.int .u8 19, .int .u8 0, .int .u8 0] 5)).alloc (.cells #[.int .u8 1, .int .u8 0, .int .u8 22] 5)).alloc (.cells #[.int .u8 7, .int .u8 0, .int .u8 22] 5)).alloc (.cells #[.int .u8 2, .int .u8 8, .int .u8 9, .int .u8 2, .int .u8 22] 5)).alloc (.cells #[.int .u8 9, .int .u8 0, .int .u8 22] 5)).alloc (.cells #[.int .u8 21, .int .u8 1, .int .u8 22] 5)).alloc (.cells #[.int .u8 2, .int .u8 21, .int .u8 0, .int .u8 22] 5)).alloc (.cells #[.int .u8 29, .int .u8 0, .int .u8 22] 5)).alloc (.cells #[.int .u8 2, .int .u8 20, .int .u8 6, .int .u8 0, .int .u8 2, .int .u8 2, .int .u8 22] 5)).alloc (.cells #[.int .u8 2, .int .u8 20, .int .u8 5, .int .u8 0, .int .u8 2, .int .u8 22] 5)).alloc (.cells #[.int .u8 40, .int .u8 3, .int .u8 0, .int .u8 2, .int .u8 22] 5)).alloc (.cells #[.int .u8 40, .int .u8 5, .int .u8 0, .int .u8 2, .int .u8 22, .int .u8 22] 5)).alloc (.cells #[.int .u8 2, .int .u8 39] 5)).alloc (.cells #[.int .u8 2, .int .u8 39, .int .u8 0] 5)).alloc (.cells #[.int .u8 44] 5)).alloc (.cells #[.int .u8 1] 5)).alloc (.cells #[.int .u8 11, .int .u8 22] 5)).alloc (.cells #[.int .u8 2, .int .u8 2, .int .u8 11, .int .u8 22] 5)).alloc (.cells #[.int .u8 6, .int .u8 22] 5)).alloc (.cells #[.int .u8 35, .int .u8 0, .int .u8 1, .int .u8 22] 5)).alloc (.cells #[.int .u8 2, .int .u8 19, .int .u8 0, .int .u8 0] 5)).alloc (.cells #[.int .u8 0, .int .u8 19, .int .u8 0, .int .u8 0] 5)).alloc (.cells #[.slice (some ⟨w1.heap.size, 0, none⟩) 0 0, .slice (some ⟨w1.heap.size + 1, 0, none⟩) 1 1, .slice (some ⟨w1.heap.size + 1 + 1, 0, none⟩) 1 1, .slice (some ⟨w1.heap.size + 1 + 1 + 1, 0, none⟩) 2 2, .slice (some ⟨w1.heap.size + 1 + 1 + 1 + 1, 0, none⟩) 2 2, .slice (some ⟨w1.heap.size + 1 + 1 + 1 + 1 + 1, 0, none⟩) 3 3, .slice (some ⟨w1.heap.size + 1 + 1 + 1 + 1 + 1 + 1, 0, none⟩) 3 3, .slice (some ⟨w1.heap.size + 1 + 1 + 1 + 1 + 1 + 1 + 1, 0, none⟩) 3 3, .slice (some ⟨w1.heap.size + 1 + 1 + 1 + 1 + 1 + 1 + 1 + 1, 0, none⟩) 3 3, .slice (some ⟨w1.heap.size + 1 + 1 + 1 + 1 + 1 + 1 + 1 + 1 + 1, 0, none⟩) 5 5, .slice (some ⟨w1.heap.size + 1 + 1 + 1 + 1 + 1 + 1 + 1 + 1 + 1 + 1, 0, none⟩) 3 3, .slice (some ⟨w1.heap.size + 1 + 1 + 1 + 1 + 1 + 1 + 1 + 1 + 1 + 1 + 1, 0, none⟩) 3 3, .slice (some ⟨w1.heap.size + 1 + 1 + 1 + 1 + 1 + 1 + 1 + 1 + 1 + 1 + 1 + 1, 0, none⟩) 4 4, .slice (some ⟨w1.heap.size + 1 + 1 + 1 + 1 + 1 + 1 + 1 + 1 + 1 + 1 + 1 + 1 + 1, 0, none⟩) 3 3, .slice (some ⟨w1.heap.size + 1 + 1 + 1 + 1 + 1 + 1 + 1 + 1 + 1 + 1 + 1 + 1 + 1 + 1, 0, none⟩) 7 7, .slice (some ⟨w1.heap.size + 1 + 1 + 1 + 1 + 1 + 1 + 1 + 1 + 1 + 1 + 1 + 1 + 1 + 1 + 1, 0, none⟩) 6 6, .slice (some ⟨w1.heap.size + 1 + 1 + 1 + 1 + 1 + 1 + 1 + 1 + 1 + 1 + 1 + 1 + 1 + 1 + 1 + 1, 0, none⟩) 5 5, .slice (some ⟨w1.heap.size + 1 + 1 + 1 + 1 + 1 + 1 + 1 + 1 + 1 + 1 + 1 + 1 + 1 + 1 + 1 + 1 + 1, 0, none⟩) 6 6, .slice (some ⟨w1.heap.size + 1 + 1 + 1 + 1 + 1 + 1 + 1 + 1 + 1 + 1 + 1 + 1 + 1 + 1 + 1 + 1 + 1 + 1, 0, none⟩) 2 2, .slice (some ⟨w1.heap.size + 1 + 1 + 1 + 1 + 1 + 1 + 1 + 1 + 1 + 1 + 1 + 1 + 1 + 1 + 1 + 1 + 1 + 1 + 1, 0, none⟩) 3 3, .slice (some ⟨w1.heap.size + 1 + 1 + 1 + 1 + 1 + 1 + 1 + 1 + 1 + 1 + 1 + 1 + 1 + 1 + 1 + 1 + 1 + 1 + 1 + 1, 0, none⟩) 1 1, .slice (some ⟨w1.heap.size + 1 + 1 + 1 + 1 + 1 + 1 + 1 + 1 + 1 + 1 + 1 + 1 + 1 + 1 + 1 + 1 + 1 + 1 + 1 + 1 + 1, 0, none⟩) 1 1, .slice (some ⟨w1.heap.size + 1 + 1 + 1 + 1 + 1 + 1 + 1 + 1 + 1 + 1 + 1 + 1 + 1 + 1 + 1 + 1 + 1 + 1 + 1 + 1 + 1 + 1, 0, none⟩) 2 2, .slice (some ⟨w1.heap.size + 1 + 1 + 1 + 1 + 1 + 1 + 1 + 1 + 1 + 1 + 1 + 1 + 1 + 1 + 1 + 1 + 1 + 1 + 1 + 1 + 1 + 1 + 1, 0, none⟩) 4 4, .slice (some ⟨w1.heap.size + 1 + 1 + 1 + 1 + 1 + 1 + 1 + 1 + 1 + 1 + 1 + 1 + 1 + 1 + 1 + 1 + 1 + 1 + 1 + 1 + 1 + 1 + 1 + 1, 0, none⟩) 2 2, .slice (some ⟨w1.heap.size + 1 + 1 + 1 + 1 + 1 + 1 + 1 + 1 + 1 + 1 + 1 + 1 + 1 + 1 + 1 + 1 + 1 + 1 + 1 + 1 + 1 + 1 + 1 + 1 + 1, 0, none⟩) 4 4, .slice (some ⟨w1.heap.size + 1 + 1 + 1 + 1 + 1 + 1 + 1 + 1 + 1 + 1 + 1 + 1 + 1 + 1 + 1 + 1 + 1 + 1 + 1 + 1 + 1 + 1 + 1 + 1 + 1 + 1, 0, none⟩) 4 4, .slice (some ⟨w1.heap.size + 1 + 1 + 1 + 1 + 1 + 1 + 1 + 1 + 1 + 1 + 1 + 1 + 1 + 1 + 1 + 1 + 1 + 1 + 1 + 1 + 1 + 1 + 1 + 1 + 1 + 1 + 1, 0, none⟩) 4 4] 26)).alloc (.cells #[.int .i64 11, .int .i64 11, .int .i64 10, .int .i64 11, .int .i64 0, .int .i64 11, .int .i64 0, .int .i64 12, .int .i64 12, .int .i64 12, .int .i64 12, .int .i64 12, .int .i64 0, .int .i64 12, .int .i64 10, .int .i64 10, .int .i64 10, .int .i64 0, .int .i64 0, .int .i64 0, .int .i64 8, .int .i64 7, .int .i64 10, .int .i64 0, .int .i64 10, .int .i64 12, .int .i64 10, .int .i64 0] 3)).alloc (.cells #[.int .i64 0, .int .i64 0, .int .i64 0, .int .i64 1, .int .i64 0, .int .i64 0, .int .i64 0, .int .i64 0, .int .i64 0, .int .i64 1, .int .i64 0, .int .i64 0, .int .i64 0, .int .i64 0, .int .i64 6, .int .i64 5, .int .i64 3, .int .i64 0, .int .i64 0, .int .i64 0, .int .i64 0, .int .i64 0, .int .i64 0, .int .i64 0, .int .i64 0, .int .i64 0, .int .i64 0, .int .i64 0] 3))).cell? ⟨w1.heap.size + 1 + 1 + 1 + 1 + 1 + 1 + 1 + 1 + 1 + 1 + 1 + 1 + 1 + 1 + 1 + 1 + 1 + 1 + 1 + 1 + 1 + 1 + 1 + 1 + 1 + 1 + 1 + 1, k, none⟩ = some (.slice (some ⟨w1.heap.size + k, 0, none⟩) cl.length cl.length) := HF1.out
  generalize hW : ((((((((((((((((((((((((((((((((w1.alloc (.cells #[] 5)).alloc (.cells #[.int .u8 0] 5)).alloc (.cells #[.int .u8 22] 5)).alloc (.cells #[.int .u8 2, .int .u8 5] 5)).alloc (.cells #[.int .u8 2, .int .u8 22] 5)).alloc (.cells #[.int .u8 19, .int .u8 1, .int .u8 0] 5)).alloc (.cells #[.int .u8 19, .int .u8 0, .int .u8 0] 5)).alloc (.cells #[.int .u8 1, .int .u8 0, .int .u8 22] 5)).alloc (.cells #[.int .u8 7, .int .u8 0, .int .u8 22] 5)).alloc (.cells #[.int .u8 2, .int .u8 8, .int .u8 9, .int .u8 2, .int .u8 22] 5)).alloc (.cells #[.int .u8 9, .int .u8 0, .int .u8 22] 5)).alloc (.cells #[.int .u8 21, .int .u8 1, .int .u8 22] 5)).alloc (.cells #[.int .u8 2, .int .u8 21, .int .u8 0, .int .u8 22] 5)).alloc (.cells #[.int .u8 29, .int .u8 0, .int .u8 22] 5)).alloc (.cells #[.int .u8 2, .int .u8 20, .int .u8 6, .int .u8 0, .int .u8 2, .int .u8 2, .int .u8 22] 5)).alloc (.cells #[.int .u8 2, .int .u8 20, .int .u8 5, .int .u8 0, .int .u8 2, .int .u8 22] 5)).alloc (.cells #[.int .u8 40, .int .u8 3, .int .u8 0, .int .u8 2, .int .u8 22] 5)).alloc (.cells #[.int .u8 40, .int .u8 5, .int .u8 0, .int .u8 2, .int .u8 22, .int .u8 22] 5)).alloc (.cells #[.int .u8 2, .int .u8 39] 5)).alloc (.cells #[.int .u8 2, .int .u8 39, .int .u8 0] 5)).alloc (.cells #[.int .u8 44] 5)).alloc (.cells #[.int .u8 1] 5)).alloc (.cells #[.int .u8 11, .int .u8 22] 5)).alloc (.cells #[.int .u8 2, .int .u8 2, .int .u8 11, .int .u8 22] 5)).alloc (.cells #[.int .u8 6, .int .u8 22] 5)).alloc (.cells #[.int .u8 35, .int .u8 0, .int .u8 1, .int .u8 22] 5)).alloc (.cells #[.int .u8 2, .int .u8 19, .int .u8 0, .int .u8 0] 5)).alloc (.cells #[.int .u8 0, .int .u8 19, .int .u8 0, .int .u8 0] 5)).alloc (.cells #[.slice (some ⟨w1.heap.size, 0, none⟩) 0 0, .slice (some ⟨w1.heap.size + 1, 0, none⟩) 1 1, .slice (some ⟨w1.heap.size + 1 + 1, 0, none⟩) 1 1, .slice (some ⟨w1.heap.size + 1 + 1 + 1, 0, none⟩) 2 2, .slice (some ⟨w1.heap.size + 1 + 1 + 1 + 1, 0, none⟩) 2 2, .slice (some ⟨w1.heap.size + 1 + 1 + 1 + 1 + 1, 0, none⟩) 3 3, .slice (some ⟨w1.heap.size + 1 + 1 + 1 + 1 + 1 + 1, 0, none⟩) 3 3, .slice (some ⟨w1.heap.size + 1 + 1 + 1 + 1 + 1 + 1 + 1, 0, none⟩) 3 3, .slice (some ⟨w1.heap.size + 1 + 1 + 1 + 1 + 1 + 1 + 1 + 1, 0, none⟩) 3 3, .slice (some ⟨w1.heap.size + 1 + 1 + 1 + 1 + 1 + 1 + 1 + 1 + 1, 0, none⟩) 5 5, .slice (some ⟨w1.heap.size + 1 + 1 + 1 + 1 + 1 + 1 + 1 + 1 + 1 + 1, 0, none⟩) 3 3, .slice (some ⟨w1.heap.size + 1 + 1 + 1 + 1 + 1 + 1 + 1 + 1 + 1 + 1 + 1, 0, none⟩) 3 3, .slice (some ⟨w1.heap.size + 1 + 1 + 1 + 1 + 1 + 1 + 1 + 1 + 1 + 1 + 1 + 1, 0, none⟩) 4 4, .slice (some ⟨w1.heap.size + 1 + 1 + 1 + 1 + 1 + 1 + 1 + 1 + 1 + 1 + 1 + 1 + 1, 0, none⟩) 3 3, .slice (some ⟨w1.heap.size + 1 + 1 + 1 + 1 + 1 + 1 + 1 + 1 + 1 + 1 + 1 + 1 + 1 + 1, 0, none⟩) 7 7, .slice (some ⟨w1.heap.size + 1 + 1 + 1 + 1 + 1 + 1 + 1 + 1 + 1 + 1 + 1 + 1 + 1 + 1 + 1, 0, none⟩) 6 6, .slice (some ⟨w1.heap.size + 1 + 1 + 1 + 1 + 1 + 1 + 1 + 1 + 1 + 1 + 1 + 1 + 1 + 1 + 1 + 1, 0, none⟩) 5 5, .slice (some ⟨w1.heap.size + 1 + 1 + 1 + 1 + 1 + 1 + 1 + 1 + 1 + 1 + 1 + 1 + 1 + 1 + 1 + 1 + 1, 0, none⟩) 6 6, .slice (some ⟨w1.heap.size + 1 + 1 + 1 + 1 + 1 + 1 + 1 + 1 + 1 + 1 + 1 + 1 + 1 + 1 + 1 + 1 + 1 + 1, 0, none⟩) 2 2, .slice (some ⟨w1.heap.size + 1 + 1 + 1 + 1 + 1 + 1 + 1 + 1 + 1 + 1 + 1 + 1 + 1 + 1 + 1 + 1 + 1 + 1 + 1, 0, none⟩) 3 3, .slice (some ⟨w1.heap.size + 1 + 1 + 1 + 1 + 1 + 1 + 1 + 1 + 1 + 1 + 1 + 1 + 1 + 1 + 1 + 1 + 1 + 1 + 1 + 1, 0, none⟩) 1 1, .slice (some ⟨w1.heap.size + 1 + 1 + 1 + 1 + 1 + 1 + 1 + 1 + 1 + 1 + 1 + 1 + 1 + 1 + 1 + 1 + 1 + 1 + 1 + 1 + 1, 0, none⟩) 1 1, .slice (some ⟨w1.heap.size + 1 + 1 + 1 + 1 + 1 + 1 + 1 + 1 + 1 + 1 + 1 + 1 + 1 + 1 + 1 + 1 + 1 + 1 + 1 + 1 + 1 + 1, 0, none⟩) 2 2, .slice (some ⟨w1.heap.size + 1 + 1 + 1 + 1 + 1 + 1 + 1 + 1 + 1 + 1 + 1 + 1 + 1 + 1 + 1 + 1 + 1 + 1 + 1 + 1 + 1 + 1 + 1, 0, none⟩) 4 4, .slice (some ⟨w1.heap.size + 1 + 1 + 1 + 1 + 1 + 1 + 1 + 1 + 1 + 1 + 1 + 1 + 1 + 1 + 1 + 1 + 1 + 1 + 1 + 1 + 1 + 1 + 1 + 1, 0, none⟩) 2 2, .slice (some ⟨w1.heap.size + 1 + 1 + 1 + 1 + 1 + 1 + 1 + 1 + 1 + 1 + 1 + 1 + 1 + 1 + 1 + 1 + 1 + 1 + 1 + 1 + 1 + 1 + 1 + 1 + 1, 0, none⟩) 4 4, .slice (some ⟨w1.heap.size + 1 + 1 + 1 + 1 + 1 + 1 + 1 + 1 + 1 + 1 + 1 + 1 + 1 + 1 + 1 + 1 + 1 + 1 + 1 + 1 + 1 + 1 + 1 + 1 + 1 + 1, 0, none⟩) 4 4, .slice (some ⟨w1.heap.size + 1 + 1 + 1 + 1 + 1 + 1 + 1 + 1 + 1 + 1 + 1 + 1 + 1 + 1 + 1 + 1 + 1 + 1 + 1 + 1 + 1 + 1 + 1 + 1 + 1 + 1 + 1, 0, none⟩) 4 4] 26)).alloc (.cells #[.int .i64 11, .int .i64 11, .int .i64 10, .int .i64 11, .int .i64 0, .int .i64 11, .int .i64 0, .int .i64 12, .int .i64 12, .int .i64 12, .int .i64 12, .int .i64 12, .int .i64 0, .int .i64 12, .int .i64 10, .int .i64 10, .int .i64 10, .int .i64 0, .int .i64 0, .int .i64 0, .int .i64 8, .int .i64 7, .int .i64 10, .int .i64 0, .int .i64 10, .int .i64 12, .int .i64 10, .int .i64 0] 3)).alloc (.cells #[.int .i64 0, .int .i64 0, .int .i64 0, .int .i64 1, .int .i64 0, .int .i64 0, .int .i64 0, .int .i64 0, .int .i64 0, .int .i64 1, .int .i64 0, .int .i64 0, .int .i64 0, .int .i64 0, .int .i64 6, .int .i64 5, .int .i64 3, .int .i64 0, .int .i64 0, .int .i64 0, .int .i64 0, .int .i64 0, .int .i64 0, .int .i64 0, .int .i64 0, .int .i64 0, .int .i64 0, .int .i64 0] 3))) = W0 at HF0 HF2 HF3 HF4 HF5
  have HWE := Lib.hid hW
  have HD := Lib.hid (fun (ob : Obj) (W : World) (hb : Below (W0.alloc ob).heap.size (W0.alloc ob) W) => (show W.cell? ⟨w1.heap.size + 1 + 1 + 1 + 1 + 1 + 1 + 1 + 1 + 1 + 1 + 1 + 1 + 1 + 1 + 1 + 1 + 1 + 1 + 1 + 1 + 1 + 1 + 1 + 1 + 1 + 1 + 1 + 1 + 1, k, none⟩ = some (.int .i64 ((wn : Nat) : Int)) ∧ W.cell? ⟨w1.heap.size + 1 + 1 + 1 + 1 + 1 + 1 + 1 + 1 + 1 + 1 + 1 + 1 + 1 + 1 + 1 + 1 + 1 + 1 + 1 + 1 + 1 + 1 + 1 + 1 + 1 + 1 + 1 + 1 + 1 + 1, k, none⟩ = some (.int .i64 ((an : Nat) : Int)) ∧ Below w1.heap.size w1 W by
    have hb2 : Below W0.heap.size W0 W := ((Below.refl _ _).alloc (Nat.le_refl _) ob).trans (hb.mono (by rw [size_alloc]; omega))
    have hs := HF4.out
    exact ⟨(hb2.cell (p := ⟨w1.heap.size + 29, k, none⟩) (by rw [hs]; show w1.heap.size + 29 < _; omega)).trans HF2.out, (hb2.cell (p := ⟨w1.heap.size + 30, k, none⟩) (by rw [hs]; show w1.heap.size + 30 < _; omega)).trans HF3.out, HF5.out.trans (hb2.mono (by rw [hs]; omega))⟩))
  have HV2 := Lib.hid (HV.out (W0.alloc (.cells #[.int .i64 0, .int .i64 0, .slice (some ⟨w1.heap.size + k, 0, none⟩) cl.length cl.length] 61)) (w1.heap.size + 1 + 1 + 1 + 1 + 1 + 1 + 1 + 1 + 1 + 1 + 1 + 1 + 1 + 1 + 1 + 1 + 1 + 1 + 1 + 1 + 1 + 1 + 1 + 1 + 1 + 1 + 1 + 1 + 1 + 1 + 1) (some ⟨w1.heap.size + k, 0, none⟩) (by
      have h := heap_alloc_at W0 (.cells #[.int .i64 0, .int .i64 0, .slice (some ⟨w1.heap.size + k, 0, none⟩) cl.length cl.length] 61)
      rw [HF4.out] at h
      exact ⟨cell_of_block h, cell_of_block h, cell_of_block h⟩) (bys_block (by rw [heap_alloc_lt _ _ (Array.getElem?_eq_some_iff.1 HF0.out).1]; exact HF0.out) HS1.out (by omega)))
  clear HV hcl hW
  go_wp2_with fail
  rw [HWE.out]
  refine HV2.out.mono ?_
  rintro en w3 ⟨rfl, hb3⟩
  obtain ⟨c1, c2, c3⟩ := HD.out _ w3 hb3
  have HB3 := Lib.hid (HB1.out.trans (c3.mono HB1.out.size))
  clear hb3 c3 h28
  go_wp2_with fail
  go_region_held3 (fun w' => w'.cell? ⟨w1.heap.size + 1 + 1 + 1 + 1 + 1 + 1 + 1 + 1 + 1 + 1 + 1 + 1 + 1 + 1 + 1 + 1 + 1 + 1 + 1 + 1 + 1 + 1 + 1 + 1 + 1 + 1 + 1 + 1 + 1, k, none⟩ = some (.int .i64 ((wn : Nat) : Int)) ∧ w'.cell? ⟨w1.heap.size + 1 + 1 + 1 + 1 + 1 + 1 + 1 + 1 + 1 + 1 + 1 + 1 + 1 + 1 + 1 + 1 + 1 + 1 + 1 + 1 + 1 + 1 + 1 + 1 + 1 + 1 + 1 + 1 + 1 + 1, k, none⟩ = some (.int .i64 ((an : Nat) : Int)))
    (go_keep)
    (first | (go_at_call 36; refine (HN.out _ _).mono ?_; rintro e w4 ⟨rfl, rfl⟩))
  go_wp2
  go_ret
  exact ⟨rfl, HB3.out.drew⟩
theorem verifyWrong.walk (a0 : Int) (w : World) (w0 : (Lit.int .i64 a0).wf = true) :
    Calls Try.prog 11 #[.int .i64 a0] w fun e w' => e = .returned (.bool true) ∧ Below w.heap.size w w' := by
  by_cases h : a0 < 0 ∨ 28 ≤ a0
  · exact verifyWrong.out a0 w h
  · obtain ⟨n, rfl⟩ := Int.eq_ofNat_of_zero_le (show 0 ≤ a0 by omega)
    exact verifyWrong.inside n w (by omega)
end Go.Proofs.Yteipnfnbepnpjaa

/- what the laws of audit are told of objects that came in; has; the example of chapter 24. -/
import Derived.Test.YtogifanooleppaaAudWrong
import Derived.Test.YtogifanooleppaaOpen
namespace Go.Proofs.Ytogifanooleppaa
open Go.RowKit Go.Maps
set_option linter.unusedVariables false

def objsArg (w : World) (a : Option Addr) (len cap : Nat) : Prop := ∃ F : Nat → Nat → Value, Rows w a len cap 5 F ∧ ∀ i, i < len → ((∃ n : Int, (F i) 0 = .int .i64 n ∧ (Lit.int .i64 n).wf = true) ∧ (∃ n : Int, (F i) 1 = .int .i64 n ∧ (Lit.int .i64 n).wf = true) ∧ (∃ n : Int, (F i) 2 = .int .i64 n ∧ (Lit.int .i64 n).wf = true) ∧ (∃ b : Bool, (F i) 3 = .bool b) ∧ (∃ (a : Option Addr) (len cap : Nat) (F0 : Nat → Nat → Value), (F i) 4 = .slice a len cap ∧ Rows w a len cap 1 F0 ∧ ∀ i, i < len → (∃ n : Int, (F0 i) 0 = .int .i64 n ∧ (Lit.int .i64 n).wf = true)))
theorem nums_of {w : World} {a : Option Addr} {len cap : Nat} {F : Nat → Nat → Value} (h : Rows w a len cap 1 F) (hF : ∀ i, i < len → ∃ n : Int, (F i) 0 = .int .i64 n ∧ (Lit.int .i64 n).wf = true) : ∃ l, NumsAt w a len cap l := by
  obtain ⟨z, hz⟩ := pick hF
  refine ⟨_, NumsAt.of (z := z) ⟨h.le, h.max, h.nil, fun i hi => ?_, fun i hi => (hz i hi).2⟩⟩
  obtain ⟨b, off, e, hb, hc⟩ := h.cell i 0 hi (by omega)
  rw [(hz i hi).1, Nat.mul_one, Nat.add_zero] at hc
  exact ⟨b, off, e, hb, hc⟩
theorem objs_of {w : World} {a : Option Addr} {len cap : Nat} (h : objsArg w a len cap) : ∃ l, ObjsAt w a len cap l := by
  obtain ⟨F, hR, hF⟩ := h
  have hO : ∀ i, ∃ o : ObjV, i < len → F i 0 = .int .i64 o.h ∧ F i 1 = .int .i64 o.k ∧ F i 2 = .int .i64 o.c ∧ F i 3 = .bool o.s ∧ F i 4 = .slice o.ra o.rl o.rc ∧ (Lit.int .i64 o.h).wf = true ∧ NumsAt w o.ra o.rl o.rc o.refs := fun i => by
    by_cases hi : i < len
    · obtain ⟨⟨n0, e0, w0⟩, ⟨n1, e1, w1⟩, ⟨n2, e2, w2⟩, ⟨b, e3⟩, ra, rl, rc, F0, e4, hR0, hF0⟩ := hF i hi
      obtain ⟨l, hl⟩ := nums_of hR0 hF0
      exact ⟨⟨n0, n1, n2, b, ra, rl, rc, l⟩, fun _ => ⟨e0, e1, e2, e3, e4, w0, hl⟩⟩
    · exact ⟨zeroO, fun h => absurd h hi⟩
  obtain ⟨f, hf⟩ := Classical.axiomOfChoice hO
  refine ⟨(List.range len).map f, by simp, hR.le, hR.max, hR.nil, fun i o ho => ?_, fun o ho => ?_, fun o ho => ?_⟩
  · rw [List.getElem?_map] at ho
    by_cases hi : i < len
    · rw [List.getElem?_range hi] at ho
      cases ho
      obtain ⟨e0, e1, e2, e3, e4, _, _⟩ := hf i hi
      obtain ⟨b, off, ea, hb, c0⟩ := hR.cell i 0 hi (by omega)
      have key : ∀ j, j < 5 → w.cell? ⟨b, off + (i * 5 + j), none⟩ = some (F i j) := fun j hj => by
        obtain ⟨b', off', ea', _, c⟩ := hR.cell i j hi hj
        rw [ea] at ea'
        cases ea'
        exact c
      have k1 := key 1 (by omega)
      have k2 := key 2 (by omega)
      have k3 := key 3 (by omega)
      have k4 := key 4 (by omega)
      rw [e0] at c0
      rw [e1] at k1
      rw [e2] at k2
      rw [e3] at k3
      rw [e4] at k4
      exact ⟨b, off, ea, hb, c0, k1, k2, k3, k4⟩
    · rw [List.getElem?_eq_none (by simpa using hi)] at ho
      cases ho
  · obtain ⟨i, hi, rfl⟩ := List.mem_map.1 ho
    exact (hf i (List.mem_range.1 hi)).2.2.2.2.2.1
  · obtain ⟨i, hi, rfl⟩ := List.mem_map.1 ho
    exact (hf i (List.mem_range.1 hi)).2.2.2.2.2.2
/-- a row that a call built, as numbers that may be read -/
theorem RowS.nums {w : World} {a : Option Addr} {n cap : Nat} {l : List Int} (h : RowS w 1 (.slice a n cap) n (intC l)) (hn : l.length = n) (hw : ∀ x ∈ l, (Lit.int .i64 x).wf = true) : NumsAt w a n cap l := by
  obtain ⟨a', cap', e, r1, r2, r3, r4⟩ := h.read
  cases e
  refine ⟨hn, r1, by simpa [maxLen] using r2, r3, fun i hi => ?_, fun i hi => ?_⟩
  · obtain ⟨b, off, ea, hb, hc⟩ := r4 i _ (intC_at (hg_some (l := l) (k := i) (by omega)))
    exact ⟨b, off, ea, hb, hc⟩
  · exact hw _ (List.mem_of_getElem? (hg_some (l := l) (k := i) (by omega)))
theorem nums_nil (w : World) : NumsAt w none 0 0 [] := ⟨rfl, ints_nil _ _ _⟩
theorem objs_nil (w : World) : ObjsAt w none 0 0 [] := ⟨rfl, Nat.le_refl _, by decide, fun _ => ⟨rfl, rfl⟩, fun i o ho => (by simp at ho), fun o ho => (by cases ho), fun o ho => (by cases ho)⟩
theorem NumsAt.at {w : World} {a : Option Addr} {len cap : Nat} {l : List Int} (h : NumsAt w a len cap l) {k : Nat} (hk : k < len) : ∃ b off, a = some ⟨b, off, none⟩ ∧ b < w.heap.size ∧ w.cell? ⟨b, off + k, none⟩ = some (.int .i64 (hg l k)) := h.ints.cell k hk
/-- is a number in a list -/
theorem has_any24 (a : Option Addr) (len cap : Nat) (l : List Int) (x : Int) (w : World) (h : NumsAt w a len cap l) :
    Calls Try.prog 43 #[.slice a len cap, .int .i64 x] w fun e w' => e = .returned (.bool (decide (x ∈ l))) ∧ w = w' := by
  have H := Lib.hid h
  have hs := h.size
  have hle := h.ints.le
  have hmx := h.ints.max
  obtain ⟨bb, hbb⟩ : ∃ bb, bb = decide (x ∈ l) := ⟨_, rfl⟩
  have HBB := Lib.hid hbb
  rw [← hbb]
  clear h hbb
  go_enter Try.func43, Try.ntmps43
  go_wp2_with fail
  go_loop [5] (fun i => ∃ k : Nat, i = .int .i64 (k : Nat) ∧ k ≤ len ∧ Hid (∀ y ∈ l.take k, y ≠ x)) (fun i => len - (intOf i).toNat)
  case atStart => exact ⟨0, rfl, Nat.zero_le _, fun y hy => by simp at hy⟩
  case round =>
    obtain ⟨k, rfl, hk, hd⟩ := hrel
    by_cases hlt : k < len
    · obtain ⟨g, off, rfl, _, hcell⟩ := H.out.at hlt
      have hx := hg_some (l := l) (k := k) (by omega)
      have hi0 : (0 : Int) ≤ (k : Int) := by omega
      have hi1 : (k : Int) < (len : Int) := by omega
      by_cases he : hg l k = x
      · have HB : Hid (bb = true) := (show bb = true by
          rw [HBB.out, decide_eq_true_iff, ← he]
          exact List.mem_of_getElem? hx)
        have hb2 : (hg l k == x) = true := by rw [beq_iff_eq]; exact he
        generalize hg l k = y at hcell hb2
        clear he hx hd
        go_wp2
        go_ret
        exact ⟨ret_bool HB.out.symm, rfl⟩
      · have hb2 : (hg l k == x) = false := by rw [beq_eq_false_iff_ne]; exact he
        have HD : Hid (∀ y ∈ l.take (k + 1), y ≠ x) := (show ∀ y ∈ l.take (k + 1), y ≠ x by
          intro y hy
          rw [List.take_add_one, hx, List.mem_append] at hy
          rcases hy with hy | hy
          · exact hd.out y hy
          · simp at hy; rw [hy]; exact he)
        generalize hg l k = y at hcell hb2
        clear he hx hd
        go_wp2
        go_round
        case rel => exact ⟨k + 1, by go_num, by omega, HD⟩
        case measure => simp [intOf]; omega
    · obtain rfl : k = len := by omega
      have HB : Hid (bb = false) := (show bb = false by
        rw [HBB.out, decide_eq_false_iff_not]
        intro hm
        exact hd.out x (by rw [List.take_of_length_le (by omega)]; exact hm) rfl)
      clear hlt hd
      go_wp2
      go_ret
      exact ⟨ret_bool HB.out.symm, rfl⟩
theorem rch_nil (l : List ObjV) : ∀ x, x ∈ ([] : List Int) ↔ Rch l [] x := fun x => by
  constructor
  · intro h; cases h
  · intro h
    induction h with
    | root h1 _ => cases h1
    | step _ _ _ _ ih => cases ih
set_option maxRecDepth 100000 in
set_option maxHeartbeats 1000000 in
theorem alive24 (w : World) : Calls Try.prog 35 #[] w fun e w' => e = .returned (.bool true) ∧ Below w.heap.size w w' := by
  obtain ⟨w1, hw1⟩ : ∃ w1, w1 = w.alloc (.cells #[.int .i64 5, .int .i64 0, .int .i64 1, .bool false, .slice none 0 0] 47) := ⟨_, rfl⟩
  have hb1 : Below w.heap.size w w1 := by rw [hw1]; exact (Below.refl _ _).alloc (Nat.le_refl _) _
  have ho : ObjsAt w1 (some ⟨w.heap.size, 0, none⟩) 1 1 [⟨5, 0, 1, false, none, 0, 0, []⟩] := by
    have hh : w1.heap[w.heap.size]? = some (.cells #[.int .i64 5, .int .i64 0, .int .i64 1, .bool false, .slice none 0 0] 47 (0, 0)) := by rw [hw1]; exact heap_alloc_at _ _
    refine ⟨rfl, Nat.le_refl _, by decide, fun e => (by cases e), fun i o hi => ?_, fun o hm => ?_, fun o hm => ?_⟩
    · cases i with
      | zero =>
        cases hi
        exact ⟨w.heap.size, 0, rfl, (Array.getElem?_eq_some_iff.1 hh).1, cell_of_block hh, cell_of_block hh, cell_of_block hh, cell_of_block hh, cell_of_block hh⟩
      | succ i => simp at hi
    · simp at hm; subst hm; decide
    · simp at hm; subst hm; exact nums_nil _
  have HWR := Lib.hid (wrong_any (some ⟨w.heap.size, 0, none⟩) none 1 1 0 0 _ [] [5] w1 ho (nums_nil _) (by simp [refsN]) (by simp) (fun x => by
    unfold wrongP firstO
    by_cases e : (5 : Int) = x
    · subst e; simp [wrongB, countR]
    · simp only [if_neg e, firstO]; simp; exact fun q => e q.symm))
  have HRE := Lib.hid (fun w2 => reach_any none none 0 0 0 0 [] [] [] w2 (objs_nil _) (nums_nil _) (by simp [refsN]) List.Pairwise.nil (rch_nil []))
  have HB1 := Lib.hid hb1
  have HW1 := Lib.hid hw1
  clear hb1 hw1 ho
  go_enter Try.func35, Try.ntmps35
  go_wp2_with fail
  rw [← HW1.out]
  refine HWR.out.mono ?_
  rintro e w2 ⟨v, rfl, hr, _, hb⟩
  obtain ⟨a, cap, rfl, h1, h2, _, h4⟩ := hr.read
  obtain ⟨b, off, rfl, hbl, hc0⟩ := h4 0 (.int .i64 5) rfl
  have HB2 := Lib.hid (HB1.out.trans (hb.mono HB1.out.size))
  clear hr hb h4
  go_wp2_with fail
  refine (HRE.out _).mono ?_
  rintro e w3 ⟨v3, rfl, hr3, _, hb3⟩
  obtain ⟨a3, cap3, rfl, _⟩ := hr3.read
  have c0 : w3.cell? ⟨b, off, none⟩ = some (.int .i64 5) := (hb3.cell (p := ⟨b, off + 0, none⟩) hbl).trans hc0
  have HB3 := Lib.hid (HB2.out.trans (hb3.mono HB2.out.size))
  clear hr3 hb3 hc0
  go_wp2
  go_ret
  exact ⟨rfl, HB3.out⟩
end Go.Proofs.Ytogifanooleppaa

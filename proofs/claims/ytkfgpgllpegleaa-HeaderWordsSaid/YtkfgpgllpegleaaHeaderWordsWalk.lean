/- The walk of the law HeaderWords: it answers true for every input. -/
import Derived.Test.YtkfgpgllpegleaaHeaderAlive
import Derived.Test.YtkfgpgllpegleaaOpen
import Derived.Test.YtkfgpgllpegleaaGrow
namespace Go.Proofs.Ytkfgpgllpegleaa
open Go.RowKit
set_option linter.unusedVariables false

set_option maxRecDepth 100000 in
set_option maxHeartbeats 1000000 in
theorem headerWords.isTrue (y : Nat) (k c r n o : Int) (z d : Bool) (w : World)
    (h1 : ∀ w, Calls Try.prog 32 #[.agg #[.int .i64 k, .int .i64 c, .int .i64 r, .int .i64 n, .int .i64 o, .bool z, .bool d]] w fun e w' => e = .returned (.bool true) ∧ Below w.heap.size w w')
    (h2 : ∀ w, Calls Try.prog 33 #[.agg #[.int .i64 k, .int .i64 c, .int .i64 r, .int .i64 n, .int .i64 o, .bool z, .bool d]] w fun e w' => e = .returned (.int .u64 (y : Nat)) ∧ Below w.heap.size w w')
    (h3 : ∀ w, Calls Try.prog 34 #[.agg #[.int .i64 k, .int .i64 c, .int .i64 r, .int .i64 n, .int .i64 o, .bool z, .bool d]] w fun e w' => e = .returned (.bool true) ∧ Below w.heap.size w w')
    (h4 : ∀ w, Calls Try.prog 35 #[.agg #[.int .i64 k, .int .i64 c, .int .i64 r, .int .i64 n, .int .i64 o, .bool z, .bool d]] w fun e w' => e = .returned (.int .u64 (y : Nat)) ∧ Below w.heap.size w w')
    (h5 : ∀ w, Calls Try.prog 36 #[.int .u64 (y : Nat)] w fun e w' => e = .returned (.agg #[.int .i64 k, .int .i64 c, .int .i64 r, .int .i64 n, .int .i64 o, .bool z, .bool d]) ∧ Below w.heap.size w w') :
    Calls Try.prog 9 #[.agg #[.int .i64 k, .int .i64 c, .int .i64 r, .int .i64 n, .int .i64 o, .bool z, .bool d]] w fun e w' => e = .returned (.bool true) ∧ Below w.heap.size w w' := by
  have H1 := Lib.hid h1
  have H2 := Lib.hid h2
  have H3 := Lib.hid h3
  have H4 := Lib.hid h4
  have H5 := Lib.hid h5
  clear h1 h2 h3 h4 h5
  go_enter Try.func9, Try.ntmps9
  go_wp2_with fail
  generalize hW : w.alloc _ = W1
  have HD : Hid (W1.heap[w.heap.size]? = some (.cells #[.int .i64 k, .int .i64 c, .int .i64 r, .int .i64 n, .int .i64 o, .bool z, .bool d] 43 (0, 0))) := (show W1.heap[w.heap.size]? = some (.cells #[.int .i64 k, .int .i64 c, .int .i64 r, .int .i64 n, .int .i64 o, .bool z, .bool d] 43 (0, 0)) by rw [← hW]; exact heap_alloc_at _ _)
  have HB0 : Hid (Below w.heap.size w W1) := (show Below w.heap.size w W1 by rw [← hW]; exact (Below.refl _ _).alloc (Nat.le_refl _) _)
  clear hW
  refine (alive8 _).mono ?_
  rintro e wa ⟨rfl, hba⟩
  have HDa : Hid (wa.heap[w.heap.size]? = some (.cells #[.int .i64 k, .int .i64 c, .int .i64 r, .int .i64 n, .int .i64 o, .bool z, .bool d] 43 (0, 0))) := ((hba.block _ (Array.getElem?_eq_some_iff.1 HD.out).1).trans HD.out)
  have HBa := Lib.hid (keepB hba HB0.out)
  clear hba
  have c0 : wa.cell? ⟨w.heap.size, 0, none⟩ = some (.int .i64 k) := (cell_of_block HDa.out).trans rfl
  have c1 : wa.cell? ⟨w.heap.size, 1, none⟩ = some (.int .i64 c) := (cell_of_block HDa.out).trans rfl
  have c2 : wa.cell? ⟨w.heap.size, 2, none⟩ = some (.int .i64 r) := (cell_of_block HDa.out).trans rfl
  have c3 : wa.cell? ⟨w.heap.size, 3, none⟩ = some (.int .i64 n) := (cell_of_block HDa.out).trans rfl
  have c4 : wa.cell? ⟨w.heap.size, 4, none⟩ = some (.int .i64 o) := (cell_of_block HDa.out).trans rfl
  have c5 : wa.cell? ⟨w.heap.size, 5, none⟩ = some (.bool z) := (cell_of_block HDa.out).trans rfl
  have c6 : wa.cell? ⟨w.heap.size, 6, none⟩ = some (.bool d) := (cell_of_block HDa.out).trans rfl
  go_wp2_with fail
  clear c0 c1 c2 c3 c4 c5 c6
  refine (H1.out _).mono ?_
  rintro e wb ⟨rfl, hbb⟩
  have HDb : Hid (wb.heap[w.heap.size]? = some (.cells #[.int .i64 k, .int .i64 c, .int .i64 r, .int .i64 n, .int .i64 o, .bool z, .bool d] 43 (0, 0))) := ((hbb.block _ (Array.getElem?_eq_some_iff.1 HDa.out).1).trans HDa.out)
  have HBb := Lib.hid (keepB hbb HBa.out)
  clear hbb
  have c0 : wb.cell? ⟨w.heap.size, 0, none⟩ = some (.int .i64 k) := (cell_of_block HDb.out).trans rfl
  have c1 : wb.cell? ⟨w.heap.size, 1, none⟩ = some (.int .i64 c) := (cell_of_block HDb.out).trans rfl
  have c2 : wb.cell? ⟨w.heap.size, 2, none⟩ = some (.int .i64 r) := (cell_of_block HDb.out).trans rfl
  have c3 : wb.cell? ⟨w.heap.size, 3, none⟩ = some (.int .i64 n) := (cell_of_block HDb.out).trans rfl
  have c4 : wb.cell? ⟨w.heap.size, 4, none⟩ = some (.int .i64 o) := (cell_of_block HDb.out).trans rfl
  have c5 : wb.cell? ⟨w.heap.size, 5, none⟩ = some (.bool z) := (cell_of_block HDb.out).trans rfl
  have c6 : wb.cell? ⟨w.heap.size, 6, none⟩ = some (.bool d) := (cell_of_block HDb.out).trans rfl
  go_wp2_with fail
  clear c0 c1 c2 c3 c4 c5 c6
  refine (H2.out _).mono ?_
  rintro e wc ⟨rfl, hbc⟩
  have HDc : Hid (wc.heap[w.heap.size]? = some (.cells #[.int .i64 k, .int .i64 c, .int .i64 r, .int .i64 n, .int .i64 o, .bool z, .bool d] 43 (0, 0))) := ((hbc.block _ (Array.getElem?_eq_some_iff.1 HDb.out).1).trans HDb.out)
  have HBc := Lib.hid (keepB hbc HBb.out)
  clear hbc
  have c0 : wc.cell? ⟨w.heap.size, 0, none⟩ = some (.int .i64 k) := (cell_of_block HDc.out).trans rfl
  have c1 : wc.cell? ⟨w.heap.size, 1, none⟩ = some (.int .i64 c) := (cell_of_block HDc.out).trans rfl
  have c2 : wc.cell? ⟨w.heap.size, 2, none⟩ = some (.int .i64 r) := (cell_of_block HDc.out).trans rfl
  have c3 : wc.cell? ⟨w.heap.size, 3, none⟩ = some (.int .i64 n) := (cell_of_block HDc.out).trans rfl
  have c4 : wc.cell? ⟨w.heap.size, 4, none⟩ = some (.int .i64 o) := (cell_of_block HDc.out).trans rfl
  have c5 : wc.cell? ⟨w.heap.size, 5, none⟩ = some (.bool z) := (cell_of_block HDc.out).trans rfl
  have c6 : wc.cell? ⟨w.heap.size, 6, none⟩ = some (.bool d) := (cell_of_block HDc.out).trans rfl
  have hbw : Below w.heap.size w wc := HBc.out
  have g0 := Grow.cell c0
  have g1 := Grow.cell c1
  have g2 := Grow.cell c2
  have g3 := Grow.cell c3
  have g4 := Grow.cell c4
  have g5 := Grow.cell c5
  have g6 := Grow.cell c6
  go_wp2_with fail
  refine grow_region (by kernel_rfl) (by kernel_rfl) ?_
  repeat (go_big_quiet_step ((first | (go_at_call 34; exact Grow.calls (H3.out _)) | (go_at_call 35; exact Grow.calls (H4.out _)) | (go_at_call 36; exact Grow.calls (H5.out _)))))
  refine wpQuiet_nil ?_
  intro _ hw
  obtain ⟨g, rfl⟩ := hw
  go_wp2
  go_ret
  exact ⟨rfl, keepB g.below hbw⟩
set_option maxRecDepth 100000 in
set_option maxHeartbeats 1000000 in
theorem headerWords.isFalse (k c r n o : Int) (z d : Bool) (w : World)
    (h1 : ∀ w, Calls Try.prog 32 #[.agg #[.int .i64 k, .int .i64 c, .int .i64 r, .int .i64 n, .int .i64 o, .bool z, .bool d]] w fun e w' => e = .returned (.bool false) ∧ Below w.heap.size w w')
    (h2 : ∀ w, Calls Try.prog 33 #[.agg #[.int .i64 k, .int .i64 c, .int .i64 r, .int .i64 n, .int .i64 o, .bool z, .bool d]] w fun e w' => e = .returned (.int .u64 0) ∧ Below w.heap.size w w')
    (h3 : ∀ w, Calls Try.prog 34 #[.agg #[.int .i64 k, .int .i64 c, .int .i64 r, .int .i64 n, .int .i64 o, .bool z, .bool d]] w fun e w' => e = .returned (.bool false) ∧ Below w.heap.size w w')
    (h4 : ∀ w, Calls Try.prog 35 #[.agg #[.int .i64 k, .int .i64 c, .int .i64 r, .int .i64 n, .int .i64 o, .bool z, .bool d]] w fun e w' => e = .returned (.int .u64 0) ∧ Below w.heap.size w w') :
    Calls Try.prog 9 #[.agg #[.int .i64 k, .int .i64 c, .int .i64 r, .int .i64 n, .int .i64 o, .bool z, .bool d]] w fun e w' => e = .returned (.bool true) ∧ Below w.heap.size w w' := by
  have H1 := Lib.hid h1
  have H2 := Lib.hid h2
  have H3 := Lib.hid h3
  have H4 := Lib.hid h4
  clear h1 h2 h3 h4
  go_enter Try.func9, Try.ntmps9
  go_wp2_with fail
  generalize hW : w.alloc _ = W1
  have HD : Hid (W1.heap[w.heap.size]? = some (.cells #[.int .i64 k, .int .i64 c, .int .i64 r, .int .i64 n, .int .i64 o, .bool z, .bool d] 43 (0, 0))) := (show W1.heap[w.heap.size]? = some (.cells #[.int .i64 k, .int .i64 c, .int .i64 r, .int .i64 n, .int .i64 o, .bool z, .bool d] 43 (0, 0)) by rw [← hW]; exact heap_alloc_at _ _)
  have HB0 : Hid (Below w.heap.size w W1) := (show Below w.heap.size w W1 by rw [← hW]; exact (Below.refl _ _).alloc (Nat.le_refl _) _)
  clear hW
  refine (alive8 _).mono ?_
  rintro e wa ⟨rfl, hba⟩
  have HDa : Hid (wa.heap[w.heap.size]? = some (.cells #[.int .i64 k, .int .i64 c, .int .i64 r, .int .i64 n, .int .i64 o, .bool z, .bool d] 43 (0, 0))) := ((hba.block _ (Array.getElem?_eq_some_iff.1 HD.out).1).trans HD.out)
  have HBa := Lib.hid (keepB hba HB0.out)
  clear hba
  have c0 : wa.cell? ⟨w.heap.size, 0, none⟩ = some (.int .i64 k) := (cell_of_block HDa.out).trans rfl
  have c1 : wa.cell? ⟨w.heap.size, 1, none⟩ = some (.int .i64 c) := (cell_of_block HDa.out).trans rfl
  have c2 : wa.cell? ⟨w.heap.size, 2, none⟩ = some (.int .i64 r) := (cell_of_block HDa.out).trans rfl
  have c3 : wa.cell? ⟨w.heap.size, 3, none⟩ = some (.int .i64 n) := (cell_of_block HDa.out).trans rfl
  have c4 : wa.cell? ⟨w.heap.size, 4, none⟩ = some (.int .i64 o) := (cell_of_block HDa.out).trans rfl
  have c5 : wa.cell? ⟨w.heap.size, 5, none⟩ = some (.bool z) := (cell_of_block HDa.out).trans rfl
  have c6 : wa.cell? ⟨w.heap.size, 6, none⟩ = some (.bool d) := (cell_of_block HDa.out).trans rfl
  go_wp2_with fail
  clear c0 c1 c2 c3 c4 c5 c6
  refine (H1.out _).mono ?_
  rintro e wb ⟨rfl, hbb⟩
  have HDb : Hid (wb.heap[w.heap.size]? = some (.cells #[.int .i64 k, .int .i64 c, .int .i64 r, .int .i64 n, .int .i64 o, .bool z, .bool d] 43 (0, 0))) := ((hbb.block _ (Array.getElem?_eq_some_iff.1 HDa.out).1).trans HDa.out)
  have HBb := Lib.hid (keepB hbb HBa.out)
  clear hbb
  have c0 : wb.cell? ⟨w.heap.size, 0, none⟩ = some (.int .i64 k) := (cell_of_block HDb.out).trans rfl
  have c1 : wb.cell? ⟨w.heap.size, 1, none⟩ = some (.int .i64 c) := (cell_of_block HDb.out).trans rfl
  have c2 : wb.cell? ⟨w.heap.size, 2, none⟩ = some (.int .i64 r) := (cell_of_block HDb.out).trans rfl
  have c3 : wb.cell? ⟨w.heap.size, 3, none⟩ = some (.int .i64 n) := (cell_of_block HDb.out).trans rfl
  have c4 : wb.cell? ⟨w.heap.size, 4, none⟩ = some (.int .i64 o) := (cell_of_block HDb.out).trans rfl
  have c5 : wb.cell? ⟨w.heap.size, 5, none⟩ = some (.bool z) := (cell_of_block HDb.out).trans rfl
  have c6 : wb.cell? ⟨w.heap.size, 6, none⟩ = some (.bool d) := (cell_of_block HDb.out).trans rfl
  go_wp2_with fail
  clear c0 c1 c2 c3 c4 c5 c6
  refine (H2.out _).mono ?_
  rintro e wc ⟨rfl, hbc⟩
  have HDc : Hid (wc.heap[w.heap.size]? = some (.cells #[.int .i64 k, .int .i64 c, .int .i64 r, .int .i64 n, .int .i64 o, .bool z, .bool d] 43 (0, 0))) := ((hbc.block _ (Array.getElem?_eq_some_iff.1 HDb.out).1).trans HDb.out)
  have HBc := Lib.hid (keepB hbc HBb.out)
  clear hbc
  have c0 : wc.cell? ⟨w.heap.size, 0, none⟩ = some (.int .i64 k) := (cell_of_block HDc.out).trans rfl
  have c1 : wc.cell? ⟨w.heap.size, 1, none⟩ = some (.int .i64 c) := (cell_of_block HDc.out).trans rfl
  have c2 : wc.cell? ⟨w.heap.size, 2, none⟩ = some (.int .i64 r) := (cell_of_block HDc.out).trans rfl
  have c3 : wc.cell? ⟨w.heap.size, 3, none⟩ = some (.int .i64 n) := (cell_of_block HDc.out).trans rfl
  have c4 : wc.cell? ⟨w.heap.size, 4, none⟩ = some (.int .i64 o) := (cell_of_block HDc.out).trans rfl
  have c5 : wc.cell? ⟨w.heap.size, 5, none⟩ = some (.bool z) := (cell_of_block HDc.out).trans rfl
  have c6 : wc.cell? ⟨w.heap.size, 6, none⟩ = some (.bool d) := (cell_of_block HDc.out).trans rfl
  have hbw : Below w.heap.size w wc := HBc.out
  have g0 := Grow.cell c0
  have g1 := Grow.cell c1
  have g2 := Grow.cell c2
  have g3 := Grow.cell c3
  have g4 := Grow.cell c4
  have g5 := Grow.cell c5
  have g6 := Grow.cell c6
  go_wp2_with fail
  refine grow_region (by kernel_rfl) (by kernel_rfl) ?_
  repeat (go_big_quiet_step ((first | (go_at_call 34; exact Grow.calls (H3.out _)) | (go_at_call 35; exact Grow.calls (H4.out _)))))
  refine wpQuiet_nil ?_
  intro _ hw
  obtain ⟨g, rfl⟩ := hw
  go_wp2
  go_ret
  exact ⟨rfl, keepB g.below hbw⟩

theorem rightB_nats {k c r n o : Int} (h : rightB k c r n o = true) : 1 ≤ k ∧ k ≤ 8 ∧ 0 ≤ c ∧ c ≤ 4000 ∧ 0 ≤ r ∧ r ≤ 4000 ∧ 0 ≤ n ∧ n ≤ 255 ∧ 0 ≤ o ∧ o ≤ 3 := by
  simpa [rightB] using h
/-- what is told of the argument 0 -/
def headerWords.arg0 (w : World) (F : Nat → Value) : Prop := ((∃ n : Int, F 0 = .int .i64 n ∧ (Lit.int .i64 n).wf = true) ∧ (∃ n : Int, F 1 = .int .i64 n ∧ (Lit.int .i64 n).wf = true) ∧ (∃ n : Int, F 2 = .int .i64 n ∧ (Lit.int .i64 n).wf = true) ∧ (∃ n : Int, F 3 = .int .i64 n ∧ (Lit.int .i64 n).wf = true) ∧ (∃ n : Int, F 4 = .int .i64 n ∧ (Lit.int .i64 n).wf = true) ∧ (∃ b : Bool, F 5 = .bool b) ∧ (∃ b : Bool, F 6 = .bool b))
theorem headerWords.walk (F0 : Nat → Value) (w : World) (w0 : headerWords.arg0 w F0) :
    Calls Try.prog 9 #[.agg #[F0 0, F0 1, F0 2, F0 3, F0 4, F0 5, F0 6]] w fun e w' => e = .returned (.bool true) ∧ Below w.heap.size w w' := by
  obtain ⟨⟨k, e0, wk⟩, ⟨c, e1, wc⟩, ⟨r, e2, wr⟩, ⟨n, e3, wn⟩, ⟨o, e4, wo⟩, ⟨z, e5⟩, ⟨d, e6⟩⟩ := w0
  rw [e0, e1, e2, e3, e4, e5, e6]
  clear e0 e1 e2 e3 e4 e5 e6
  have h1 := fun w => right_any k c r n o z d w
  have h3 := fun w => rightRef_any k c r n o z d w
  cases hr : rightB k c r n o
  · rw [hr] at h1 h3
    exact headerWords.isFalse k c r n o z d w h1 (fun w => word_bad k c r n o z d hr w) h3 (fun w => wordRef_bad k c r n o z d hr w)
  · rw [hr] at h1 h3
    have hb := rightB_nats hr
    obtain ⟨k', rfl⟩ : ∃ m : Nat, k = m := ⟨k.toNat, by omega⟩
    obtain ⟨c', rfl⟩ : ∃ m : Nat, c = m := ⟨c.toNat, by omega⟩
    obtain ⟨r', rfl⟩ : ∃ m : Nat, r = m := ⟨r.toNat, by omega⟩
    obtain ⟨n', rfl⟩ : ∃ m : Nat, n = m := ⟨n.toNat, by omega⟩
    obtain ⟨o', rfl⟩ : ∃ m : Nat, o = m := ⟨o.toNat, by omega⟩
    have h5 := read_any (wordN k' c' r' n' o' z d) (Nat.lt_trans (wordN_lt z d (by omega) (by omega) (by omega) (by omega) (by omega)) (by decide))
    rw [hdrOf_word z d (by omega) (by omega) (by omega) (by omega) (by omega)] at h5
    exact headerWords.isTrue _ k' c' r' n' o' z d w h1 (fun w => word_good k' c' r' n' o' z d (by omega) (by omega) (by omega) (by omega) (by omega) w) h3 (fun w => wordRef_good k' c' r' n' o' z d (by omega) (by omega) (by omega) (by omega) (by omega) w) h5
end Go.Proofs.Ytkfgpgllpegleaa

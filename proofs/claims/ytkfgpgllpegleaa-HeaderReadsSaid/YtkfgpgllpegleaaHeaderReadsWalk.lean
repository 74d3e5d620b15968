/- The walk of the law HeaderReads: it answers true for every input. -/
import Derived.Test.YtkfgpgllpegleaaHeaderAlive
import Derived.Deep.RegionWith
namespace Go.Proofs.Ytkfgpgllpegleaa
open Go.RowKit
set_option linter.unusedVariables false

set_option maxRecDepth 100000 in
set_option maxHeartbeats 1000000 in
theorem headerReads.isTrue (x y k c r n o : Nat) (z d : Bool) (w : World) (hm : bits .and .u64 (x : Int) 281474976710655 = (y : Int))
    (h1 : ∀ w, Calls Try.prog 36 #[.int .u64 (x : Nat)] w fun e w' => e = .returned (.agg #[.int .i64 (k : Nat), .int .i64 (c : Nat), .int .i64 (r : Nat), .int .i64 (n : Nat), .int .i64 (o : Nat), .bool z, .bool d]) ∧ Below w.heap.size w w')
    (h2 : ∀ w, Calls Try.prog 37 #[.int .u64 (x : Nat)] w fun e w' => e = .returned (.agg #[.int .i64 (k : Nat), .int .i64 (c : Nat), .int .i64 (r : Nat), .int .i64 (n : Nat), .int .i64 (o : Nat), .bool z, .bool d]) ∧ Below w.heap.size w w')
    (h3 : ∀ w, Calls Try.prog 32 #[.agg #[.int .i64 (k : Nat), .int .i64 (c : Nat), .int .i64 (r : Nat), .int .i64 (n : Nat), .int .i64 (o : Nat), .bool z, .bool d]] w fun e w' => e = .returned (.bool true) ∧ Below w.heap.size w w')
    (h4 : ∀ w, Calls Try.prog 33 #[.agg #[.int .i64 (k : Nat), .int .i64 (c : Nat), .int .i64 (r : Nat), .int .i64 (n : Nat), .int .i64 (o : Nat), .bool z, .bool d]] w fun e w' => e = .returned (.int .u64 (y : Nat)) ∧ Below w.heap.size w w') :
    Calls Try.prog 10 #[.int .u64 (x : Nat)] w fun e w' => e = .returned (.bool true) ∧ Below w.heap.size w w' := by
  have H1 := Lib.hid h1
  have H2 := Lib.hid h2
  have H3 := Lib.hid h3
  have H4 := Lib.hid h4
  clear h1 h2 h3 h4
  go_enter Try.func10, Try.ntmps10
  go_wp2_with fail
  refine (alive8 _).mono ?_
  rintro e wa ⟨rfl, hba⟩
  have HBa := Lib.hid hba
  clear hba
  go_wp2_with fail
  refine (H1.out _).mono ?_
  rintro e wb ⟨rfl, hbb⟩
  have HBb := Lib.hid (keepB hbb HBa.out)
  clear hbb
  go_wp2_with fail
  generalize hW : wb.alloc _ = W1
  obtain ⟨q, hq⟩ : ∃ q, q = wb.heap.size := ⟨_, rfl⟩
  rw [← hq]
  have c0 : W1.cell? ⟨q, 0, none⟩ = some (.int .i64 (k : Nat)) := by rw [← hW, hq, cell_of_block (heap_alloc_at _ _)]; rfl
  have c1 : W1.cell? ⟨q, 1, none⟩ = some (.int .i64 (c : Nat)) := by rw [← hW, hq, cell_of_block (heap_alloc_at _ _)]; rfl
  have c2 : W1.cell? ⟨q, 2, none⟩ = some (.int .i64 (r : Nat)) := by rw [← hW, hq, cell_of_block (heap_alloc_at _ _)]; rfl
  have c3 : W1.cell? ⟨q, 3, none⟩ = some (.int .i64 (n : Nat)) := by rw [← hW, hq, cell_of_block (heap_alloc_at _ _)]; rfl
  have c4 : W1.cell? ⟨q, 4, none⟩ = some (.int .i64 (o : Nat)) := by rw [← hW, hq, cell_of_block (heap_alloc_at _ _)]; rfl
  have c5 : W1.cell? ⟨q, 5, none⟩ = some (.bool z) := by rw [← hW, hq, cell_of_block (heap_alloc_at _ _)]; rfl
  have c6 : W1.cell? ⟨q, 6, none⟩ = some (.bool d) := by rw [← hW, hq, cell_of_block (heap_alloc_at _ _)]; rfl
  have hbw : Below w.heap.size w W1 := by rw [← hW]; exact HBb.out.alloc HBb.out.size _
  clear hW hq
  go_region_held3 (fun w' => w'.cell? ⟨q, 0, none⟩ = some (.int .i64 (k : Nat)) ∧ w'.cell? ⟨q, 1, none⟩ = some (.int .i64 (c : Nat)) ∧ w'.cell? ⟨q, 2, none⟩ = some (.int .i64 (r : Nat)) ∧ w'.cell? ⟨q, 3, none⟩ = some (.int .i64 (n : Nat)) ∧ w'.cell? ⟨q, 4, none⟩ = some (.int .i64 (o : Nat)) ∧ w'.cell? ⟨q, 5, none⟩ = some (.bool z) ∧ w'.cell? ⟨q, 6, none⟩ = some (.bool d) ∧ Below w.heap.size w w')
    (((try go_split_ands); (repeat' apply And.intro) <;> first | assumption | (refine keepC ?_ (by assumption); assumption) | (refine keepB ?_ (by assumption); assumption) | (exact Below.drew (by assumption)) | (exact keepD (by assumption))))
    (first | (go_at_call 37; refine (H2.out _).mono ?_; rintro e w2 ⟨rfl, hb⟩) | (go_at_call 32; refine (H3.out _).mono ?_; rintro e w2 ⟨rfl, hb⟩) | (go_at_call 33; refine (H4.out _).mono ?_; rintro e w2 ⟨rfl, hb⟩))
  go_wp2
  rename_i hh
  go_ret
  exact ⟨rfl, hh.2.2.2.2.2.2.2⟩
set_option maxRecDepth 100000 in
set_option maxHeartbeats 1000000 in
theorem headerReads.isFalse (x y k c r n o : Nat) (z d : Bool) (w : World) (hm : bits .and .u64 (x : Int) 281474976710655 = (y : Int))
    (h1 : ∀ w, Calls Try.prog 36 #[.int .u64 (x : Nat)] w fun e w' => e = .returned (.agg #[.int .i64 (k : Nat), .int .i64 (c : Nat), .int .i64 (r : Nat), .int .i64 (n : Nat), .int .i64 (o : Nat), .bool z, .bool d]) ∧ Below w.heap.size w w')
    (h2 : ∀ w, Calls Try.prog 37 #[.int .u64 (x : Nat)] w fun e w' => e = .returned (.agg #[.int .i64 (k : Nat), .int .i64 (c : Nat), .int .i64 (r : Nat), .int .i64 (n : Nat), .int .i64 (o : Nat), .bool z, .bool d]) ∧ Below w.heap.size w w')
    (h3 : ∀ w, Calls Try.prog 32 #[.agg #[.int .i64 (k : Nat), .int .i64 (c : Nat), .int .i64 (r : Nat), .int .i64 (n : Nat), .int .i64 (o : Nat), .bool z, .bool d]] w fun e w' => e = .returned (.bool false) ∧ Below w.heap.size w w') :
    Calls Try.prog 10 #[.int .u64 (x : Nat)] w fun e w' => e = .returned (.bool true) ∧ Below w.heap.size w w' := by
  have H1 := Lib.hid h1
  have H2 := Lib.hid h2
  have H3 := Lib.hid h3
  clear h1 h2 h3
  go_enter Try.func10, Try.ntmps10
  go_wp2_with fail
  refine (alive8 _).mono ?_
  rintro e wa ⟨rfl, hba⟩
  have HBa := Lib.hid hba
  clear hba
  go_wp2_with fail
  refine (H1.out _).mono ?_
  rintro e wb ⟨rfl, hbb⟩
  have HBb := Lib.hid (keepB hbb HBa.out)
  clear hbb
  go_wp2_with fail
  generalize hW : wb.alloc _ = W1
  obtain ⟨q, hq⟩ : ∃ q, q = wb.heap.size := ⟨_, rfl⟩
  rw [← hq]
  have c0 : W1.cell? ⟨q, 0, none⟩ = some (.int .i64 (k : Nat)) := by rw [← hW, hq, cell_of_block (heap_alloc_at _ _)]; rfl
  have c1 : W1.cell? ⟨q, 1, none⟩ = some (.int .i64 (c : Nat)) := by rw [← hW, hq, cell_of_block (heap_alloc_at _ _)]; rfl
  have c2 : W1.cell? ⟨q, 2, none⟩ = some (.int .i64 (r : Nat)) := by rw [← hW, hq, cell_of_block (heap_alloc_at _ _)]; rfl
  have c3 : W1.cell? ⟨q, 3, none⟩ = some (.int .i64 (n : Nat)) := by rw [← hW, hq, cell_of_block (heap_alloc_at _ _)]; rfl
  have c4 : W1.cell? ⟨q, 4, none⟩ = some (.int .i64 (o : Nat)) := by rw [← hW, hq, cell_of_block (heap_alloc_at _ _)]; rfl
  have c5 : W1.cell? ⟨q, 5, none⟩ = some (.bool z) := by rw [← hW, hq, cell_of_block (heap_alloc_at _ _)]; rfl
  have c6 : W1.cell? ⟨q, 6, none⟩ = some (.bool d) := by rw [← hW, hq, cell_of_block (heap_alloc_at _ _)]; rfl
  have hbw : Below w.heap.size w W1 := by rw [← hW]; exact HBb.out.alloc HBb.out.size _
  clear hW hq
  first | (go_region_with
    (first | (go_at_call 37; refine (H2.out _).mono ?_; rintro e w2 ⟨rfl, hb⟩; have c0 := (by first | exact keepC hb c0 | exact keepC hb (keepD c0) : w2.cell? ⟨q, 0, none⟩ = some (.int .i64 (k : Nat))); have c1 := (by first | exact keepC hb c1 | exact keepC hb (keepD c1) : w2.cell? ⟨q, 1, none⟩ = some (.int .i64 (c : Nat))); have c2 := (by first | exact keepC hb c2 | exact keepC hb (keepD c2) : w2.cell? ⟨q, 2, none⟩ = some (.int .i64 (r : Nat))); have c3 := (by first | exact keepC hb c3 | exact keepC hb (keepD c3) : w2.cell? ⟨q, 3, none⟩ = some (.int .i64 (n : Nat))); have c4 := (by first | exact keepC hb c4 | exact keepC hb (keepD c4) : w2.cell? ⟨q, 4, none⟩ = some (.int .i64 (o : Nat))); have c5 := (by first | exact keepC hb c5 | exact keepC hb (keepD c5) : w2.cell? ⟨q, 5, none⟩ = some (.bool z)); have c6 := (by first | exact keepC hb c6 | exact keepC hb (keepD c6) : w2.cell? ⟨q, 6, none⟩ = some (.bool d)); have hbw := (by first | exact keepB hb hbw | exact keepB hb hbw.drew : Below w.heap.size w w2); clear hb) | (go_at_call 32; refine (H3.out _).mono ?_; rintro e w2 ⟨rfl, hb⟩; have c0 := (by first | exact keepC hb c0 | exact keepC hb (keepD c0) : w2.cell? ⟨q, 0, none⟩ = some (.int .i64 (k : Nat))); have c1 := (by first | exact keepC hb c1 | exact keepC hb (keepD c1) : w2.cell? ⟨q, 1, none⟩ = some (.int .i64 (c : Nat))); have c2 := (by first | exact keepC hb c2 | exact keepC hb (keepD c2) : w2.cell? ⟨q, 2, none⟩ = some (.int .i64 (r : Nat))); have c3 := (by first | exact keepC hb c3 | exact keepC hb (keepD c3) : w2.cell? ⟨q, 3, none⟩ = some (.int .i64 (n : Nat))); have c4 := (by first | exact keepC hb c4 | exact keepC hb (keepD c4) : w2.cell? ⟨q, 4, none⟩ = some (.int .i64 (o : Nat))); have c5 := (by first | exact keepC hb c5 | exact keepC hb (keepD c5) : w2.cell? ⟨q, 5, none⟩ = some (.bool z)); have c6 := (by first | exact keepC hb c6 | exact keepC hb (keepD c6) : w2.cell? ⟨q, 6, none⟩ = some (.bool d)); have hbw := (by first | exact keepB hb hbw | exact keepB hb hbw.drew : Below w.heap.size w w2); clear hb))) | fail
  all_goals
    go_wp2
    go_ret
    exact ⟨rfl, hbw⟩

theorem right_nat {k c r n o : Nat} (h : rightB k c r n o = true) : (1 ≤ k ∧ k ≤ 8) ∧ c ≤ 4000 ∧ r ≤ 4000 ∧ n ≤ 255 ∧ o ≤ 3 := by
  simp [rightB] at h
  omega
theorem headerReads.walk (a0 : Int) (w : World) (w0 : (Lit.int .u64 a0).wf = true) :
    Calls Try.prog 10 #[.int .u64 a0] w fun e w' => e = .returned (.bool true) ∧ Below w.heap.size w w' := by
  have hb := bounds_u64 w0
  obtain ⟨x, rfl⟩ : ∃ n : Nat, a0 = n := ⟨a0.toNat, by omega⟩
  have hx : x < 18446744073709551616 := by omega
  have hm : bits .and .u64 (x : Int) 281474976710655 = ((x % 281474976710656 : Nat) : Int) := u64_and_mod (n := 48) hx (by decide)
  have hw := word_hdr x
  have h1 := read_any x hx
  have h2 := readRef_any x hx
  have h0 : hdrOf x = hdrV (x % 16 : Nat) (x / 16 % 65536 : Nat) (x / 1048576 % 65536 : Nat) (x / 68719476736 % 256 : Nat) (x / 17592186044416 % 4 : Nat) (x / 70368744177664 % 2 == 1) (x / 140737488355328 % 2 == 1) := rfl
  rw [h0] at h1 h2
  clear h0
  generalize x % 281474976710656 = y at hm hw
  generalize x % 16 = k at *
  generalize x / 16 % 65536 = c at *
  generalize x / 1048576 % 65536 = r at *
  generalize x / 68719476736 % 256 = n at *
  generalize x / 17592186044416 % 4 = o at *
  generalize (x / 70368744177664 % 2 == 1) = z at *
  generalize (x / 140737488355328 % 2 == 1) = d at *
  have h3 := fun w => right_any k c r n o z d w
  cases hr : rightB k c r n o
  · rw [hr] at h3
    exact headerReads.isFalse x y k c r n o z d w hm h1 h2 h3
  · rw [hr] at h3
    obtain ⟨b1, b2, b3, b4, b5⟩ := right_nat hr
    have h4 := fun w => word_good k c r n o z d b1 b2 b3 b4 b5 w
    rw [hw] at h4
    exact headerReads.isTrue x y k c r n o z d w hm h1 h2 h3 h4
end Go.Proofs.Ytkfgpgllpegleaa

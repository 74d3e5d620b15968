/- arena's of, whole, kept, used compute what they say. -/
import Derived.Test.YtfiddodlpppdhaaArAt
namespace Go.Proofs.Ytfiddodlpppdhaa
open Go.RowKit Go.Maps
set_option linter.unusedVariables false
theorem ar_key : Keyed Try.prog 3 := int_keyed Try.underlying3
theorem ar_zero (w : World) : (zeroValue 61).run Try.prog w = .ok (.pointer none) w := by kernel_rfl
section
variable {w w' : World} {pa K : Nat} {I : ArIds} {own : Nat → Nat} {A : Ar}
theorem ArAt.cells (h : ArAt w pa I own K A) : w.cell? ⟨pa, 0, none⟩ = some (.slice (some ⟨I.gw, 0, none⟩) (64 * A.N) (64 * A.N)) ∧ w.cell? ⟨pa, 1, none⟩ = some (.pointer (some ⟨I.pt, 0, none⟩)) ∧ w.cell? ⟨pa, 2, none⟩ = some (.pointer (some ⟨I.pl, 0, none⟩)) ∧ w.cell? ⟨pa, 3, none⟩ = some (.map (some I.mb)) ∧ w.cell? ⟨pa, 9, none⟩ = some (.int .i64 (A.bad : Nat)) ∧ w.frozen? ⟨pa, 9, none⟩ = false :=
  ⟨cell_of_block h.head, cell_of_block h.head, cell_of_block h.head, cell_of_block h.head, cell_of_block h.head, free_of_block h.head⟩
theorem ArAt.bcells (h : ArAt w pa I own K A) {x : Nat} {b : BlkT} (hb : A.B x = some b) : w.cell? ⟨I.blk x, 0, none⟩ = some (.int .i64 (b.size : Nat)) ∧ w.cell? ⟨I.blk x, 1, none⟩ = some (.int .i64 (b.asked : Nat)) ∧ w.cell? ⟨I.blk x, 2, none⟩ = some (.int .i64 (b.st : Nat)) ∧ w.frozen? ⟨I.blk x, 1, none⟩ = false ∧ w.frozen? ⟨I.blk x, 2, none⟩ = false :=
  ⟨cell_of_block (h.blks x b hb), cell_of_block (h.blks x b hb), cell_of_block (h.blks x b hb), free_of_block (h.blks x b hb), free_of_block (h.blks x b hb)⟩
theorem ArAt.drewN (h : ArAt w pa I own K A) (k : Nat) : ArAt (w.drewN k) pa I own K A := h.same ((Keeps.refl [] w).drewN k) (fun x hx => absurd hx List.not_mem_nil)
theorem ArAt.ints (h : ArAt w pa I own K A) {x s c : Nat} (hx : x + s ≤ 64 * A.N) (hc : s ≤ c) (hm : c ≤ 9223372036854775807) : Ints .u64 w (some ⟨I.gw, x, none⟩) s c (fun i => A.wd (x + i)) := by
  obtain ⟨cs, h1, h2, h3⟩ := h.words
  refine ⟨hc, hm, fun e => (by cases e), fun i hi => ⟨I.gw, x, rfl, (Array.getElem?_eq_some_iff.1 h1).1, ?_⟩, fun i hi => h.wwf _⟩
  rw [cell_of_block h1, h3 (x + i) (by omega)]
/-- how of ends -/
def OfDone (I : ArIds) (A : Ar) (x s : Nat) (w : World) (en : Ending) (w' : World) : Prop := en = .returned (.slice (some ⟨I.gw, x, none⟩) s (64 * A.N - x)) ∧ ∃ k, w' = w.drewN k
set_option maxRecDepth 100000 in
theorem of_at (x : Nat) (b : BlkT) (w : World) (h : ArAt w pa I own K A) (hb : A.B x = some b) (hx : x + b.size ≤ 64 * A.N) (h0 : 0 < b.size) (hN : A.N ≤ 4096) :
    Calls Try.prog 49 #[.pointer (some ⟨pa, 0, none⟩), .int .i64 (x : Nat), .pointer (some ⟨I.blk x, 0, none⟩)] w (OfDone I A x b.size w) := by
  obtain ⟨c0, _⟩ := h.cells
  obtain ⟨d0, _⟩ := h.bcells hb
  obtain ⟨M, hM⟩ : ∃ M, M = 64 * A.N := ⟨_, rfl⟩
  have hm : M ≤ 262144 := by omega
  unfold OfDone
  rw [← hM] at c0 hx ⊢
  generalize b.size = s at *
  have hw1 : IntKind.i64.wrap ((x : Int) + (s : Int)) = ((x + s : Nat) : Int) := by rw [IntWalk.i64_in _ (by omega)]; omega
  obtain ⟨y, hy⟩ : ∃ y, y = x + s := ⟨_, rfl⟩
  rw [← hy] at hw1
  have hi0 : (0 : Int) ≤ (x : Int) := by omega
  have hi1 : (x : Int) ≤ (y : Int) := by omega
  have hi2 : (y : Int) ≤ (M : Int) := by omega
  have hne : ¬ (M = x) := by omega
  have hys : y - x = s := by omega
  have HY := Lib.hid hys
  clear h hb hM hx h0 hy hm hys
  go_enter Try.func49, Try.ntmps49
  go_wp2_with fail
  go_quiet (fail)
  go_wp2
  go_ret
  refine ⟨?_, _, rfl⟩
  rw [← HY.out]
  rfl
/-- what whole answers -/
noncomputable def wholeD (A : Ar) (x : Nat) (b : BlkT) : Bool := (b.st == 0) || wholeB ps (x : Int) b.size (fun i => A.wd (x + i))
theorem wholeD_iff {A : Ar} {x : Nat} {b : BlkT} (hx : x + b.size ≤ 262144) : wholeD A x b = true ↔ wholeA A x b := by
  unfold wholeD wholeA wholeB
  rw [Bool.or_eq_true, beq_iff_eq, decide_eq_true_iff]
  have e : ∀ i, i < b.size → wrap64 ((x : Int) + (i : Int)) = ((x + i : Nat) : Int) := fun i hi => by unfold wrap64; omega
  constructor
  · rintro (h | h)
    · exact .inl h
    · exact .inr fun i hi => by have := h i hi; rw [e i hi] at this; exact this
  · rintro (h | h)
    · exact .inl h
    · exact .inr fun i hi => by show A.wd (x + i) = _; rw [e i hi]; exact h i hi
def WholeDone (A : Ar) (x : Nat) (b : BlkT) (w : World) (en : Ending) (w' : World) : Prop := en = .returned (.bool (wholeD A x b)) ∧ ∃ k, w' = w.drewN k
set_option maxRecDepth 100000 in
theorem whole_at (x : Nat) (b : BlkT) (w : World) (h : ArAt w pa I own K A) (hb : A.B x = some b) (hx : x + b.size ≤ 64 * A.N) (h0 : 0 < b.size) (hN : A.N ≤ 4096) :
    Calls Try.prog 52 #[.pointer (some ⟨pa, 0, none⟩), .int .i64 (x : Nat), .pointer (some ⟨I.blk x, 0, none⟩)] w (WholeDone A x b w) := by
  obtain ⟨_, _, d2, _⟩ := h.bcells hb
  have HOF := Lib.hid (of_at x b w h hb hx h0 hN)
  have HWP := Lib.hid (fun k => whole_ps (some ⟨I.gw, x, none⟩) b.size (64 * A.N - x) (fun i => A.wd (x + i)) (x : Int) (w.drewN k) ((h.drewN k).ints hx (by omega) (by omega)))
  unfold WholeDone
  by_cases hs : b.st = 0
  · have HV : Hid (wholeD A x b = true) := (show wholeD A x b = true from by unfold wholeD; rw [hs]; rfl)
    rw [hs] at d2
    clear h hb hx h0 hN hs
    go_enter Try.func52, Try.ntmps52
    go_wp2
    go_ret
    exact ⟨by rw [HV.out]; rfl, 0, rfl⟩
  · have hb2 : ((b.st : Int) == 0) = false := by rw [beq_eq_false_iff_ne]; omega
    have HV : Hid (wholeD A x b = wholeB ps (x : Int) b.size (fun i => A.wd (x + i))) := (show wholeD A x b = _ from by unfold wholeD; rw [show (b.st == 0) = false by rw [beq_eq_false_iff_ne]; exact hs, Bool.false_or])
    generalize wholeB ps (x : Int) b.size (fun i => A.wd (x + i)) = r at HWP HV
    clear h hb hx h0 hN hs
    go_enter Try.func52, Try.ntmps52
    go_wp2_with fail
    refine HOF.out.mono ?_
    rintro en w1 ⟨rfl, k, rfl⟩
    go_wp2_with fail
    refine (HWP.out k).mono ?_
    rintro en w2 ⟨rfl, rfl⟩
    go_wp2
    go_ret
    exact ⟨by rw [HV.out]; rfl, k, rfl⟩
/-- what kept answers -/
noncomputable def keptD (A : Ar) (x : Nat) (b : BlkT) : Bool := wholeB cn ((x + b.asked : Nat) : Int) (b.size - b.asked) (fun i => A.wd (x + b.asked + i))
theorem keptD_iff {A : Ar} {x : Nat} {b : BlkT} (hx : x + b.size ≤ 262144) (ha : b.asked ≤ b.size) : keptD A x b = true ↔ keptA A x b := by
  unfold keptD keptA wholeB
  rw [decide_eq_true_iff]
  have e : ∀ i, i < b.size - b.asked → wrap64 (((x + b.asked : Nat) : Int) + (i : Int)) = ((x + b.asked + i : Nat) : Int) := fun i hi => by unfold wrap64; omega
  constructor
  · intro h i h1 h2
    have := h (i - b.asked) (by omega)
    rw [e _ (by omega)] at this
    have this : A.wd (x + b.asked + (i - b.asked)) = _ := this
    rw [show x + b.asked + (i - b.asked) = x + i by omega] at this
    exact this
  · intro h i hi
    show A.wd (x + b.asked + i) = _
    rw [e i hi, show x + b.asked + i = x + (b.asked + i) by omega]
    exact h (b.asked + i) (by omega) (by omega)
def KeptDone (A : Ar) (x : Nat) (b : BlkT) (w : World) (en : Ending) (w' : World) : Prop := en = .returned (.bool (keptD A x b)) ∧ ∃ k, w' = w.drewN k
set_option maxRecDepth 100000 in
set_option maxHeartbeats 1000000 in
theorem kept_at (x : Nat) (b : BlkT) (w : World) (h : ArAt w pa I own K A) (hb : A.B x = some b) (hx : x + b.size ≤ 64 * A.N) (h0 : 0 < b.size) (hN : A.N ≤ 4096) (ha : b.asked ≤ b.size) :
    Calls Try.prog 33 #[.pointer (some ⟨pa, 0, none⟩), .int .i64 (x : Nat), .pointer (some ⟨I.blk x, 0, none⟩)] w (KeptDone A x b w) := by
  obtain ⟨_, d1, _⟩ := h.bcells hb
  obtain ⟨C, hC⟩ : ∃ C, C = 64 * A.N - x := ⟨_, rfl⟩
  obtain ⟨y, hy⟩ : ∃ y, y = x + b.asked := ⟨_, rfl⟩
  have HOF : Hid (∀ k, Calls Try.prog 49 #[.pointer (some ⟨pa, 0, none⟩), .int .i64 (x : Nat), .pointer (some ⟨I.blk x, 0, none⟩)] (w.drewN k) fun e w'' => e = .returned (.slice (some ⟨I.gw, x, none⟩) b.size C) ∧ ∃ m, w'' = w.drewN m) := (show ∀ k, _ from fun k => (of_at x b (w.drewN k) (h.drewN k) hb hx h0 hN).mono (by
    rintro en w2 ⟨rfl, m, rfl⟩
    exact ⟨by rw [hC], _, World.drewN_drewN _ _ _⟩))
  have HWC : Hid (∀ k, Calls Try.prog 48 #[.slice (some ⟨I.gw, x + b.asked, none⟩) (b.size - b.asked) (C - b.asked), .int .i64 (y : Nat), .bool false] (w.drewN k) fun e w'' => e = .returned (.bool (keptD A x b)) ∧ w.drewN k = w'') := (show ∀ k, _ from fun k => by
    rw [hC, hy]
    exact whole_cn (some ⟨I.gw, x + b.asked, none⟩) (b.size - b.asked) (64 * A.N - x - b.asked) (fun i => A.wd (x + b.asked + i)) ((x + b.asked : Nat) : Int) (w.drewN k) ((h.drewN k).ints (x := x + b.asked) (s := b.size - b.asked) (c := 64 * A.N - x - b.asked) (by omega) (by omega) (by omega)))
  have HWC0 : Hid (C = b.asked → ∀ k, Calls Try.prog 48 #[.slice (some ⟨I.gw, x, none⟩) 0 0, .int .i64 (y : Nat), .bool false] (w.drewN k) fun e w'' => e = .returned (.bool (keptD A x b)) ∧ w.drewN k = w'') := (show _ → ∀ k, _ from fun hc k => by
    have hz : b.size - b.asked = 0 := by omega
    have := whole_cn (some ⟨I.gw, x, none⟩) 0 0 (fun i => A.wd (x + b.asked + i)) ((x + b.asked : Nat) : Int) (w.drewN k) ⟨by omega, by omega, fun e => (by cases e), fun i hi => absurd hi (by omega), fun i hi => absurd hi (by omega)⟩
    rw [hy]
    unfold keptD
    rw [hz]
    exact this)
  unfold KeptDone
  generalize keptD A x b = r at HWC HWC0 ⊢
  generalize b.asked = n at *
  generalize b.size = s at *
  have hw1 : IntKind.i64.wrap ((x : Int) + (n : Int)) = (y : Int) := by rw [IntWalk.i64_in _ (by omega)]; omega
  have hi0 : (0 : Int) ≤ (n : Int) := by omega
  have hi1 : (n : Int) ≤ (s : Int) := by omega
  have hi2 : (s : Int) ≤ (C : Int) := by omega
  have hsC : s ≤ C := by omega
  clear h hb hx h0 hN hC hy
  by_cases hcn : C = n
  · have HW := Lib.hid (HWC0.out hcn)
    clear HWC HWC0
    obtain rfl : s = n := by omega
    subst hcn
    clear hsC ha
    go_enter Try.func33, Try.ntmps33
    go_wp2_with fail
    go_quiet ((first | (go_at_call 49; exact HOF.out _) | (go_at_call 48; exact quiet_left (HW.out _))))
    go_wp2
    go_ret
    exact ⟨rfl, _, rfl⟩
  · clear HWC0 hsC ha
    go_enter Try.func33, Try.ntmps33
    go_wp2_with fail
    go_quiet ((first | (go_at_call 49; exact HOF.out _) | (go_at_call 48; exact quiet_left (HWC.out _))))
    go_wp2
    go_ret
    exact ⟨rfl, _, rfl⟩
/-- what used answers -/
def UsedDone (I : ArIds) (A : Ar) (x : Int) (w : World) (en : Ending) (w' : World) : Prop :=
  (∃ k, w' = w.drewN k) ∧ ((∃ (n : Nat) (b : BlkT), x = (n : Int) ∧ A.B n = some b ∧ en = .returned (.tuple #[.pointer (some ⟨I.blk n, 0, none⟩), .bool ((b.st : Int) == 1)])) ∨ ((∀ n : Nat, x = (n : Int) → A.B n = none) ∧ en = .returned (.tuple #[.pointer none, .bool false])))
theorem mapP_some {B : Nat → Option BlkT} {blk : Nat → Nat} {n : Nat} {b : BlkT} (h : B n = some b) : mapP B blk (n : Int) = some (.pointer (some ⟨blk n, 0, none⟩)) := by
  unfold mapP; rw [if_pos (by omega), Int.toNat_natCast, h]; rfl
theorem mapP_none {B : Nat → Option BlkT} {blk : Nat → Nat} {x : Int} (h : ∀ n : Nat, x = (n : Int) → B n = none) : mapP B blk x = none := by
  unfold mapP
  split
  · next h0 => rw [h x.toNat (by omega)]; rfl
  · rfl
set_option maxRecDepth 100000 in
theorem used_at (x : Int) (w : World) (h : ArAt w pa I own K A) (hx : (Lit.int .i64 x).wf = true) :
    Calls Try.prog 32 #[.pointer (some ⟨pa, 0, none⟩), .int .i64 x] w (UsedDone I A x w) := by
  obtain ⟨_, _, _, c3, _⟩ := h.cells
  have hlk := h.map.look_ok ar_key Try.underlying3 Try.underlying53 (ar_zero w) hx
  by_cases hB : ∃ (n : Nat) (b : BlkT), x = (n : Int) ∧ A.B n = some b
  · obtain ⟨n, b, rfl, hb⟩ := hB
    rw [mapP_some hb] at hlk
    simp only [Option.getD_some, Option.isSome_some] at hlk
    obtain ⟨_, _, d2, _⟩ := h.bcells hb
    have HB := Lib.hid hb
    clear h hx hb
    go_enter Try.func32, Try.ntmps32
    go_wp2_with fail
    go_quiet (fail)
    go_wp2
    go_ret2
    exact ⟨⟨_, rfl⟩, .inl ⟨n, b, rfl, HB.out, rfl⟩⟩
  · have hN : ∀ n : Nat, x = (n : Int) → A.B n = none := fun n e => by
      cases hb : A.B n with
      | none => rfl
      | some b => exact absurd ⟨n, b, e, hb⟩ hB
    rw [mapP_none hN] at hlk
    simp only [Option.getD_none, Option.isSome_none] at hlk
    have HN := Lib.hid hN
    clear h hx hB hN
    go_enter Try.func32, Try.ntmps32
    go_wp2_with fail
    go_quiet (fail)
    go_wp2
    go_ret2
    exact ⟨⟨_, rfl⟩, .inr ⟨HN.out, rfl⟩⟩
end
end Go.Proofs.Ytfiddodlpppdhaa

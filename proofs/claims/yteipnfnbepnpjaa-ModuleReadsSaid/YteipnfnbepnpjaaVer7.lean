/- module's Right, of a module of one function. -/
import Derived.Test.YteipnfnbepnpjaaVer6
namespace Go.Proofs.Yteipnfnbepnpjaa
open Go.RowKit Go.Maps
set_option linter.unusedVariables false

theorem within_any (n lo hi : Int) (w : World) : Calls Try.prog 60 #[.int .i64 n, .int .i64 lo, .int .i64 hi] w fun e w' => e = .returned (.bool (decide (lo ≤ n) && decide (n ≤ hi))) ∧ w = w' := by
  by_cases h : lo ≤ n
  · have d : decide (lo ≤ n) = true := decide_eq_true h
    rw [d, Bool.true_and]
    go_enter Try.func60, Try.ntmps60
    go_wp2
    go_ret
    exact ⟨rfl, rfl⟩
  · have d : decide (lo ≤ n) = false := decide_eq_false h
    rw [d, Bool.false_and]
    go_enter Try.func60, Try.ntmps60
    go_wp2
    go_ret
    exact ⟨rfl, rfl⟩
/-- a module of one function without parameters, as a value -/
abbrev modV (fb : Nat) : Value := .agg #[.int .i64 0, .slice none 0 0, .slice (some ⟨fb, 0, none⟩) 1 1, .slice none 0 0]
structure FunAt (w : World) (fb loc : Nat) (ca : Option Addr) (clen ccap : Nat) : Prop where
  p : w.cell? ⟨fb, 0, none⟩ = some (.int .i64 0)
  l : w.cell? ⟨fb, 1, none⟩ = some (.int .i64 (loc : Nat))
  c : w.cell? ⟨fb, 2, none⟩ = some (.slice ca clen ccap)
section
variable {fb loc : Nat} {ca : Option Addr} {clen ccap : Nat} {w w' : World}
theorem FunAt.lt (f : FunAt w fb loc ca clen ccap) : fb < w.heap.size := World.block_lt_of_cell? w _ f.p
theorem FunAt.below (f : FunAt w fb loc ca clen ccap) (hb : Below w.heap.size w w') : FunAt w' fb loc ca clen ccap :=
  ⟨(hb.cell (p := ⟨fb, 0, none⟩) f.lt).trans f.p, (hb.cell (p := ⟨fb, 1, none⟩) f.lt).trans f.l, (hb.cell (p := ⟨fb, 2, none⟩) f.lt).trans f.c⟩
/-- the boxed module, and the function -/
structure MoAt (w0 : World) (gm fb loc : Nat) (ca : Option Addr) (clen ccap : Nat) (w : World) : Prop where
  f : FunAt w fb loc ca clen ccap
  m0 : w.cell? ⟨gm, 0, none⟩ = some (.int .i64 0)
  m1 : w.cell? ⟨gm, 1, none⟩ = some (.slice none 0 0)
  m2 : w.cell? ⟨gm, 2, none⟩ = some (.slice (some ⟨fb, 0, none⟩) 1 1)
  m3 : w.cell? ⟨gm, 3, none⟩ = some (.slice none 0 0)
  bel : Below w0.heap.size w0 w
theorem MoAt.below {w0 : World} {gm : Nat} (m : MoAt w0 gm fb loc ca clen ccap w) (hb : Below w.heap.size w w') : MoAt w0 gm fb loc ca clen ccap w' := by
  have hl := World.block_lt_of_cell? w _ m.m0
  exact ⟨m.f.below hb, (hb.cell (p := ⟨gm, 0, none⟩) hl).trans m.m0, (hb.cell (p := ⟨gm, 1, none⟩) hl).trans m.m1, (hb.cell (p := ⟨gm, 2, none⟩) hl).trans m.m2, (hb.cell (p := ⟨gm, 3, none⟩) hl).trans m.m3, m.bel.trans (hb.mono m.bel.size)⟩
theorem MoAt.made (f : FunAt w fb loc ca clen ccap) (t : TypeId) : MoAt w w.heap.size fb loc ca clen ccap (w.alloc (.cells #[.int .i64 0, .slice none 0 0, .slice (some ⟨fb, 0, none⟩) 1 1, .slice none 0 0] t)) := by
  have hb : Below w.heap.size w (w.alloc (.cells #[.int .i64 0, .slice none 0 0, .slice (some ⟨fb, 0, none⟩) 1 1, .slice none 0 0] t)) := (Below.refl _ _).alloc (Nat.le_refl _) _
  exact ⟨f.below hb, cell_of_block (heap_alloc_at _ _), cell_of_block (heap_alloc_at _ _), cell_of_block (heap_alloc_at _ _), cell_of_block (heap_alloc_at _ _), hb⟩
set_option maxRecDepth 100000 in
set_option maxHeartbeats 4000000 in
theorem sized_one (w : World) (f : FunAt w fb loc ca clen ccap) (hloc : loc ≤ 50) (hc : clen ≤ 4000) :
    Calls Try.prog 43 #[modV fb] w fun e w' => e = .returned (.bool true) ∧ Below w.heap.size w w' := by
  have HM := Lib.hid (MoAt.made f 47)
  have HW := Lib.hid (fun n lo hi w => within_any n lo hi w)
  obtain ⟨gm, hgm⟩ : ∃ gm, gm = w.heap.size := ⟨_, rfl⟩
  obtain ⟨w1, hw1⟩ : ∃ w1, w1 = w.alloc (.cells #[.int .i64 0, .slice none 0 0, .slice (some ⟨fb, 0, none⟩) 1 1, .slice none 0 0] 47) := ⟨_, rfl⟩
  have HW1 := Lib.hid hw1
  have HGM := Lib.hid hgm
  have hfl := f.lt
  rw [← hgm, ← hw1] at HM
  have hl : (loc : Int) ≤ 50 := by omega
  have hcl : (clen : Int) ≤ 4000 := by omega
  clear f hgm hw1
  go_enter Try.func43, Try.ntmps43
  go_wp2_with fail
  rw [← HW1.out, ← HGM.out]
  refine (HW.out _ _ _ _).mono ?_
  rintro en w2 ⟨rfl, rfl⟩
  obtain ⟨ff, m0, m1, m2, m3, _⟩ := HM.out
  go_wp2_with fail
  go_loopw [3, 34] (fun o i wr => o = .bool true ∧ i = .int .i64 0 ∧ Hid (MoAt w gm fb loc ca clen ccap wr)) (fun _ _ _ => 0)
  case atStart => exact ⟨rfl, rfl, HM.out⟩
  case round =>
    obtain ⟨rfl, rfl, hs⟩ := hrel
    obtain ⟨wo, rfl⟩ : ∃ wo : World, wo = wr := ⟨_, rfl⟩
    obtain ⟨ff, m0, m1, m2, m3, _⟩ := hs.out
    go_wp2_with fail
    go_loopw [3, 49] (fun o i wr => o = .bool true ∧ (∃ k : Nat, i = .int .i64 (k : Nat) ∧ k ≤ 1) ∧ Hid (MoAt w gm fb loc ca clen ccap wr)) (fun _ i _ => 1 - (intOf i).toNat)
    case atStart => exact ⟨rfl, ⟨0, rfl, by omega⟩, hs⟩
    case round =>
      obtain ⟨rfl, ⟨k, rfl, hk⟩, hs2⟩ := hrel
      obtain ⟨wp, rfl⟩ : ∃ wp : World, wp = wr := ⟨_, rfl⟩
      obtain ⟨ff2, p0, p1, p2, p3, _⟩ := hs2.out
      have q0 := ff2.p
      have q1 := ff2.l
      have q2 := ff2.c
      rcases (by omega : k = 0 ∨ k = 1) with rfl | rfl
      · have HB := Lib.hid (fun (ob : Obj) => hs2.out.below ((Below.refl _ _).alloc (Nat.le_refl _) ob))
        go_wp2_with fail
        refine (HW.out _ _ _ _).mono ?_
        rintro en w5 ⟨rfl, rfl⟩
        go_wp2_with fail
        refine (HW.out _ _ _ _).mono ?_
        rintro en w6 ⟨rfl, rfl⟩
        have i1 : decide ((0 : Int) ≤ (loc : Int)) = true := by rw [decide_eq_true_iff]; omega
        have i2 : decide ((loc : Int) ≤ 50) = true := by rw [decide_eq_true_iff]; omega
        go_wp2
        go_roundw
        case rel => first | exact ⟨rfl, ⟨1, rfl, by omega⟩, HB.out _⟩ | ((repeat apply Exists.intro); exact ⟨⟨rfl, ⟨1, rfl, by omega⟩, HB.out _⟩, rfl⟩)
        case measure => simp [intOf]
      · go_wp2_with fail
        go_loopw [3, 76] (fun o i wr => o = .bool true ∧ i = .int .i64 0 ∧ Hid (MoAt w gm fb loc ca clen ccap wr)) (fun _ _ _ => 0)
        case atStart => exact ⟨rfl, rfl, hs2⟩
        case round =>
          obtain ⟨rfl, rfl, hs3⟩ := hrel
          obtain ⟨wq, rfl⟩ : ∃ wq : World, wq = wr := ⟨_, rfl⟩
          go_wp2
          go_ret
          exact ⟨rfl, hs3.out.bel⟩
set_option maxRecDepth 100000 in
set_option maxHeartbeats 4000000 in
theorem right_one (w : World) (f : FunAt w fb loc ca clen ccap) (hloc : loc ≤ 50) (hc : clen ≤ 4000) :
    Calls Try.prog 30 #[modV fb] w fun e w' => e = .returned (.int .i64 0) ∧ Below w.heap.size w w' := by
  have HM := Lib.hid (MoAt.made f 47)
  obtain ⟨gm, hgm⟩ : ∃ gm, gm = w.heap.size := ⟨_, rfl⟩
  obtain ⟨w1, hw1⟩ : ∃ w1, w1 = w.alloc (.cells #[.int .i64 0, .slice none 0 0, .slice (some ⟨fb, 0, none⟩) 1 1, .slice none 0 0] 47) := ⟨_, rfl⟩
  have HW1 := Lib.hid hw1
  have HGM := Lib.hid hgm
  rw [← hgm, ← hw1] at HM
  have HS := Lib.hid (sized_one w1 HM.out.f hloc hc)
  clear f hgm hw1
  go_enter Try.func30, Try.ntmps30
  go_wp2_with fail
  rw [← HW1.out, ← HGM.out]
  refine HS.out.mono ?_
  rintro en w2 ⟨rfl, hb2⟩
  have HM2 := Lib.hid (HM.out.below hb2)
  obtain ⟨ff, m0, m1, m2, m3, _⟩ := HM2.out
  clear hb2
  go_wp2_with fail
  go_loopw [17] (fun i wr => i = .int .i64 0 ∧ Hid (MoAt w gm fb loc ca clen ccap wr)) (fun _ _ => 0)
  case atStart => exact ⟨rfl, HM2⟩
  case round =>
    obtain ⟨rfl, hs⟩ := hrel
    obtain ⟨wo, rfl⟩ : ∃ wo : World, wo = wr := ⟨_, rfl⟩
    obtain ⟨ff, n0, n1, n2, n3, _⟩ := hs.out
    go_wp2_with fail
    go_loopw [29] (fun i wr => i = .int .i64 0 ∧ Hid (MoAt w gm fb loc ca clen ccap wr)) (fun _ _ => 0)
    case atStart => exact ⟨rfl, hs⟩
    case round =>
      obtain ⟨rfl, hs2⟩ := hrel
      obtain ⟨wp, rfl⟩ : ∃ wp : World, wp = wr := ⟨_, rfl⟩
      go_wp2
      go_ret
      exact ⟨rfl, hs2.out.bel⟩
end
end Go.Proofs.Yteipnfnbepnpjaa

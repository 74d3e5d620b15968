/- verify's Check, of a module of one function; the example of chapter 21. -/
import Derived.Test.YteipnfnbepnpjaaVer8
import Derived.Test.YteipnfnbepnpjaaCodeWr
namespace Go.Proofs.Yteipnfnbepnpjaa
open Go.RowKit Go.Maps
set_option linter.unusedVariables false

/-- what Check tells -/
def VerDone (R : Nat × Nat) (w : World) (en : Ending) (w' : World) : Prop := en = .returned (.tuple #[.int .i64 0, .int .i64 (R.1 : Nat), .int .i64 (R.2 : Nat)]) ∧ Below w.heap.size w w'
section
variable {fb loc : Nat} {ca : Option Addr} {clen ccap : Nat} {w w' : World}
theorem three_cells (w : World) (c0 c1 c2 : Value) (t : TypeId) {w2 : World} (hb : Below (w.alloc (.cells #[c0, c1, c2] t)).heap.size (w.alloc (.cells #[c0, c1, c2] t)) w2) :
    w2.cell? ⟨w.heap.size, 0, none⟩ = some c0 ∧ w2.cell? ⟨w.heap.size, 1, none⟩ = some c1 ∧ w2.cell? ⟨w.heap.size, 2, none⟩ = some c2 := by
  have hh := heap_alloc_at w (.cells #[c0, c1, c2] t)
  have hl : w.heap.size < (w.alloc (.cells #[c0, c1, c2] t)).heap.size := by rw [size_alloc]; omega
  exact ⟨(hb.cell (p := ⟨w.heap.size, 0, none⟩) hl).trans (cell_of_block hh), (hb.cell (p := ⟨w.heap.size, 1, none⟩) hl).trans (cell_of_block hh), (hb.cell (p := ⟨w.heap.size, 2, none⟩) hl).trans (cell_of_block hh)⟩
set_option maxRecDepth 100000 in
set_option maxHeartbeats 4000000 in
theorem verCheck_any (F : Nat) (R : Nat × Nat) (b : Nat → Nat) (w : World) (f : FunAt w fb loc ca clen ccap) (hB : Bys w ca clen ccap b) (hc : clen ≤ 4000) (hloc : loc ≤ 50) (hF : F ≤ 100000) (hR : funcN F loc b clen = some R) (hR0 : R.2 = 0 → R.1 = 0) :
    Calls Try.prog 35 #[modV fb] w (VerDone R w) := by
  unfold VerDone
  have HM := Lib.hid (MoAt.made f 47)
  obtain ⟨gm, hgm⟩ : ∃ gm, gm = w.heap.size := ⟨_, rfl⟩
  obtain ⟨w1, hw1⟩ : ∃ w1, w1 = w.alloc (.cells #[.int .i64 0, .slice none 0 0, .slice (some ⟨fb, 0, none⟩) 1 1, .slice none 0 0] 47) := ⟨_, rfl⟩
  have HW1 := Lib.hid hw1
  have HGM := Lib.hid hgm
  rw [← hgm, ← hw1] at HM
  have HRT := Lib.hid (right_one w1 HM.out.f hloc hc)
  have HFN := Lib.hid (fun (W : World) (hb : Below w.heap.size w W) (hfc : W.cell? ⟨fb, 0, none⟩ = some (.int .i64 0)) => function_any F R b W (hB.below hb) hc hfc hloc hF hR)
  unfold FunDone at HFN
  obtain ⟨m0, m1, m2, m3⟩ : w1.cell? ⟨gm, 0, none⟩ = some (.int .i64 0) ∧ w1.cell? ⟨gm, 1, none⟩ = some (.slice none 0 0) ∧ w1.cell? ⟨gm, 2, none⟩ = some (.slice (some ⟨fb, 0, none⟩) 1 1) ∧ w1.cell? ⟨gm, 3, none⟩ = some (.slice none 0 0) := ⟨HM.out.m0, HM.out.m1, HM.out.m2, HM.out.m3⟩
  have HR0 := Lib.hid hR0
  clear f hB hgm hw1 hR hR0 m0 m1 m2 m3
  go_enter Try.func35, Try.ntmps35
  go_wp2_with fail
  rw [← HW1.out, ← HGM.out]
  refine HRT.out.mono ?_
  rintro en w2 ⟨rfl, hb2⟩
  have HM2 := Lib.hid (HM.out.below hb2)
  obtain ⟨ff, m0, m1, m2, m3, _⟩ := HM2.out
  clear hb2
  go_wp2_with fail
  go_loopw [18] (fun i wr => ∃ k : Nat, i = .int .i64 (k : Nat) ∧ k ≤ 1 ∧ Hid (k = 1 → R = (0, 0)) ∧ Hid (MoAt w gm fb loc ca clen ccap wr)) (fun i _ => 1 - (intOf i).toNat)
  case atStart => exact ⟨0, rfl, by omega, (fun h => by cases h), HM2⟩
  case round =>
    obtain ⟨k, rfl, hk, hR1, hs⟩ := hrel
    obtain ⟨wo, rfl⟩ : ∃ wo : World, wo = wr := ⟨_, rfl⟩
    obtain ⟨ff2, p0, p1, p2, p3, _⟩ := hs.out
    have q0 := ff2.p
    have q1 := ff2.l
    have q2 := ff2.c
    have hgl : gm < wo.heap.size := World.block_lt_of_cell? wo _ p0
    have hfl : fb < wo.heap.size := World.block_lt_of_cell? wo _ q0
    rcases (by omega : k = 0 ∨ k = 1) with rfl | rfl
    · obtain ⟨wx, hwx⟩ : ∃ wx, wx = wo.alloc (.cells #[.int .i64 0, .int .i64 (loc : Nat), .slice ca clen ccap] 61) := ⟨_, rfl⟩
      have HWX := Lib.hid hwx
      have HX := Lib.hid (hs.out.below (w' := wx) (by rw [hwx]; exact (Below.refl _ _).alloc (Nat.le_refl _) _))
      have HC := Lib.hid (HFN.out wx HX.out.bel HX.out.f.p)
      have hz : R.2 = 0 ∨ R.2 ≠ 0 := by omega
      clear hwx
      rcases hz with h0 | h0
      · have HRE : Hid (R = (0, 0)) := (show R = (0, 0) from Prod.ext (HR0.out h0) h0)
        rw [HRE.out] at HC
        clear h0
        go_wp2_with fail
        rw [← HWX.out]
        refine HC.out.mono ?_
        rintro en w4 ⟨rfl, hb4⟩
        have HM4 := Lib.hid (HX.out.below hb4)
        clear hb4
        go_wp2
        go_roundw
        case rel => exact ⟨1, rfl, Nat.le_refl _, (fun _ => HRE.out), HM4⟩
        case measure => simp [intOf]
      · have hbn : ((R.2 : Int) != 0) = true := by rw [bne_iff_ne]; omega
        clear h0
        go_wp2_with fail
        rw [← HWX.out]
        refine HC.out.mono ?_
        rintro en w4 ⟨rfl, hb4⟩
        have HM4 := Lib.hid (HX.out.below hb4).bel
        clear hb4
        go_wp2
        refine bodyPost_ret (v := .tuple #[.int .i64 0, .int .i64 (R.1 : Nat), .int .i64 (R.2 : Nat)]) (by simp [results, Try.results35, go_sem]) rfl ⟨rfl, HM4.out⟩
    · have HRE : Hid (R = (0, 0)) := (show R = (0, 0) from hR1.out rfl)
      clear hR1
      go_wp2
      rw [HRE.out]
      refine bodyPost_ret (v := .tuple #[.int .i64 0, .int .i64 0, .int .i64 0]) (by simp [results, Try.results35, go_sem]) rfl ⟨rfl, hs.out.bel⟩
end
theorem num21_any (e : Int) (w : World) : Calls Try.prog 36 #[.int .i64 e] w fun en w' => en = .returned (.int .i64 e) ∧ w = w' := by
  go_enter Try.func36, Try.ntmps36
  go_wp2
  go_ret
  exact ⟨rfl, rfl⟩
/-- bytes by a list -/
def byL (l : List Nat) : Nat → Nat := fun i => l[i]?.getD 0
theorem bys_block {w : World} {g : Nat} {l : List Nat} {t : TypeId} (h : w.heap[g]? = some (.cells (byteCells l).toArray t (0, 0))) (hl : ∀ y ∈ l, y < 256) (hs : l.length ≤ 100000) : Bys w (some ⟨g, 0, none⟩) l.length l.length (byL l) := by
  have hg := (Array.getElem?_eq_some_iff.1 h).1
  refine ⟨Nat.le_refl _, by omega, fun e => (by cases e), fun i hi => ⟨g, 0, rfl, hg, ?_⟩, fun i hi => ?_⟩
  · rw [Nat.zero_add, cell_of_block h]
    unfold byL byteCells
    rw [List.getElem?_toArray, List.getElem?_map, List.getElem?_eq_getElem hi]
    rfl
  · have := hl _ (List.getElem_mem hi)
    unfold byL
    rw [List.getElem?_eq_getElem hi]
    simp [Lit.wf, IntKind.min, IntKind.max, IntKind.signed, IntKind.bits]
    omega
/-- the bytes' block and the function's block, made one behind the other -/
theorem fun_made (w : World) (l : List Nat) (loc : Nat) (t1 t2 : TypeId) (hl : ∀ y ∈ l, y < 256) (hs : l.length ≤ 100000) : FunAt ((w.alloc (.cells (byteCells l).toArray t1)).alloc (.cells #[.int .i64 0, .int .i64 (loc : Nat), .slice (some ⟨w.heap.size, 0, none⟩) l.length l.length] t2)) (w.heap.size + 1) loc (some ⟨w.heap.size, 0, none⟩) l.length l.length ∧
    Bys ((w.alloc (.cells (byteCells l).toArray t1)).alloc (.cells #[.int .i64 0, .int .i64 (loc : Nat), .slice (some ⟨w.heap.size, 0, none⟩) l.length l.length] t2)) (some ⟨w.heap.size, 0, none⟩) l.length l.length (byL l) := by
  have h1 := heap_alloc_at (w.alloc (.cells (byteCells l).toArray t1)) (.cells #[.int .i64 0, .int .i64 (loc : Nat), .slice (some ⟨w.heap.size, 0, none⟩) l.length l.length] t2)
  rw [size_alloc] at h1
  exact ⟨⟨cell_of_block h1, cell_of_block h1, cell_of_block h1⟩, bys_block (by rw [heap_alloc_lt _ _ (by rw [size_alloc]; omega)]; exact heap_alloc_at _ _) hl hs⟩
set_option maxRecDepth 100000 in
theorem alive21 (w : World) : Calls Try.prog 34 #[] w fun e w' => e = .returned (.bool true) ∧ Below w.heap.size w w' := by
  have H1 := Lib.hid (fun (w : World) => (show _ from (fun_made w [2, 22] 0 5 61 (by decide) (by decide))))
  have HC1 := Lib.hid (fun (w : World) => verCheck_any 10 (0, 0) (byL [2, 22]) _ (H1.out w).1 (H1.out w).2 (by decide) (by decide) (by decide) (by decide) (by decide))
  have H2 := Lib.hid (fun (w : World) => (show _ from (fun_made w [22] 0 5 61 (by decide) (by decide))))
  have HC2 := Lib.hid (fun (w : World) => verCheck_any 10 (0, 10) (byL [22]) _ (H2.out w).1 (H2.out w).2 (by decide) (by decide) (by decide) (by decide) (by decide))
  have HN := Lib.hid (fun e w => num21_any e w)
  unfold VerDone at HC1 HC2
  have e1 : (((0 : Nat), (10 : Nat)).1 : Int) = 0 := rfl
  go_enter Try.func34, Try.ntmps34
  go_wp2_with fail
  refine (HC1.out _).mono ?_
  rintro en w1 ⟨rfl, hb1⟩
  have HB1 := Lib.hid (two_alloc w (.cells (byteCells [2, 22]).toArray 5) (.cells #[.int .i64 0, .int .i64 ((0 : Nat) : Int), .slice (some ⟨w.heap.size, 0, none⟩) 2 2] 61) |>.trans (hb1.mono (two_alloc w _ _).size))
  clear hb1
  go_wp2_with fail
  refine (HC2.out _).mono ?_
  rintro en w2 ⟨rfl, hb2⟩
  have HB2 := Lib.hid (HB1.out.trans (((two_alloc w1 (.cells (byteCells [22]).toArray 5) (.cells #[.int .i64 0, .int .i64 ((0 : Nat) : Int), .slice (some ⟨w1.heap.size, 0, none⟩) 1 1] 61)).trans (hb2.mono (two_alloc w1 _ _).size)).mono HB1.out.size))
  clear hb2
  go_wp2_with fail
  refine (HN.out _ _).mono ?_
  rintro en w3 ⟨rfl, rfl⟩
  go_wp2_with fail
  refine (HN.out _ _).mono ?_
  rintro en w3 ⟨rfl, rfl⟩
  go_wp2
  go_ret
  exact ⟨rfl, HB2.out⟩
end Go.Proofs.Yteipnfnbepnpjaa

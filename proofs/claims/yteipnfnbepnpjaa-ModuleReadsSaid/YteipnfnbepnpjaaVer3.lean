/- verify's numbers, Places. -/
import Derived.Test.YteipnfnbepnpjaaVer2
namespace Go.Proofs.Yteipnfnbepnpjaa
open Go.RowKit Go.Maps
set_option linter.unusedVariables false

theorem vz_zero (w : World) : (zeroValue 3).run Try.prog w = .ok (.int .i64 0) w := by kernel_rfl
theorem vz_key : Keyed Try.prog 3 := int_keyed Try.underlying3
theorem below_drewN {B : Nat} {w w' : World} (h : Below B w w') (k : Nat) : Below B w (w'.drewN k) := ⟨h.os, h.tape, h.output, h.size, h.block⟩
theorem four_cells (w : World) (c0 c1 c2 c3 : Value) (t : TypeId) {w2 : World} (hb : Below (w.alloc (.cells #[c0, c1, c2, c3] t)).heap.size (w.alloc (.cells #[c0, c1, c2, c3] t)) w2) :
    w2.cell? ⟨w.heap.size, 0, none⟩ = some c0 ∧ w2.cell? ⟨w.heap.size, 1, none⟩ = some c1 ∧ w2.cell? ⟨w.heap.size, 2, none⟩ = some c2 ∧ w2.cell? ⟨w.heap.size, 3, none⟩ = some c3 ∧ w.heap.size < w2.heap.size ∧ Below w.heap.size w w2 := by
  have hh := heap_alloc_at w (.cells #[c0, c1, c2, c3] t)
  have hl : w.heap.size < (w.alloc (.cells #[c0, c1, c2, c3] t)).heap.size := by rw [size_alloc]; omega
  refine ⟨(hb.cell (p := ⟨w.heap.size, 0, none⟩) hl).trans (cell_of_block hh), (hb.cell (p := ⟨w.heap.size, 1, none⟩) hl).trans (cell_of_block hh), (hb.cell (p := ⟨w.heap.size, 2, none⟩) hl).trans (cell_of_block hh), (hb.cell (p := ⟨w.heap.size, 3, none⟩) hl).trans (cell_of_block hh), Nat.lt_of_lt_of_le hl hb.size, ((Below.refl _ w).alloc (Nat.le_refl _) _).trans (hb.mono (Nat.le_of_lt hl))⟩
theorem ret_int2 {a b : Int} (h : a = b) : Ending.returned (.int .i64 a) = .returned (.int .i64 b) := by rw [h]
section
variable {B pc fb mb N loc : Nat} {cv lv hv wv : Value} {l : List InsT} {h : List Int} {wk : List Nat} {w0 w w' : World}
set_option maxRecDepth 100000 in
set_option maxHeartbeats 2000000 in
theorem numbers_any (t op a b : Nat) (hop : op < 44) (ha : a ≤ 65535) (hb : b ≤ 65535) (hl : loc ≤ 1000) (k : CkS B pc fb mb N loc cv lv hv wv l h wk w0 w) :
    Calls Try.prog 64 #[.pointer (some ⟨pc, 0, none⟩), .agg #[.int .i64 (t : Nat), .int .i64 (op : Nat), .int .i64 (a : Nat), .int .i64 (b : Nat)]] w fun e w' => e = .returned (.int .i64 (numbersN loc l (t, op, a, b) : Nat)) ∧ Below w.heap.size w w' := by
  obtain ⟨w1, hw1⟩ : ∃ w1, w1 = w.alloc (.cells #[.int .i64 (t : Nat), .int .i64 (op : Nat), .int .i64 (a : Nat), .int .i64 (b : Nat)] 30) := ⟨_, rfl⟩
  have hb1 : Below w.heap.size w w1 := by rw [hw1]; exact (Below.refl _ _).alloc (Nat.le_refl _) _
  have K1 := Lib.hid (k.below hb1)
  have HN := Lib.hid (named_any (t : Nat) op a b hop ha hb hl K1.out)
  have HW1 := Lib.hid hw1
  have HJ := Lib.hid (fun w => jumps_any (t : Nat) op a b w)
  have H4 := Lib.hid (fun (w2 : World) (hb2 : Below w1.heap.size w1 w2) => (show _ from four_cells w (.int .i64 (t : Nat)) (.int .i64 (op : Nat)) (.int .i64 (a : Nat)) (.int .i64 (b : Nat)) 30 (w2 := w2) (by rw [← HW1.out]; exact hb2)))
  have HM := Lib.hid (fun (w2 : World) (hb2 : Below w1.heap.size w1 w2) (n : Nat) => (((K1.out.below hb2).map.drewN n).look_ok vz_key Try.underlying3 Try.underlying98 (vz_zero _) (x := ((a : Nat) : Int)) (WalkArith.wf_i64 (by omega))))
  have HC := Lib.hid (fun (w2 : World) (hb2 : Below w1.heap.size w1 w2) => (show w2.cell? ⟨pc, 8, none⟩ = some (.map (some mb)) from (K1.out.below hb2).cell 8))
  have HJV : Hid (numbersN loc l (t, op, a, b) = if namedN loc op a b = false then 12 else if (jumpsN op && (placeN l l.length a).isNone) = true then 11 else 0) := rfl
  have hpl := k.lt
  clear k hb1 hw1
  cases hn : namedN loc op a b with
  | false =>
    rw [hn] at HN HJV
    rw [if_pos rfl] at HJV
    rw [HJV.out]
    clear hn
    go_enter Try.func64, Try.ntmps64
    go_wp2_with fail
    rw [← HW1.out]
    refine HN.out.mono ?_
    rintro e w2 ⟨rfl, hb2⟩
    have HB2 := Lib.hid (H4.out w2 hb2).2.2.2.2.2
    clear hb2
    go_wp2
    go_ret
    exact ⟨rfl, HB2.out⟩
  | true =>
    rw [hn] at HN HJV
    rw [if_neg (by simp)] at HJV
    clear hn
    go_enter Try.func64, Try.ntmps64
    go_wp2_with fail
    rw [← HW1.out]
    refine HN.out.mono ?_
    rintro e w2 ⟨rfl, hb2⟩
    obtain ⟨d0, d1, d2, d3, hgl, hbw⟩ := H4.out w2 hb2
    have c8 := HC.out w2 hb2
    have hlk := HM.out w2 hb2
    rw [placeZ_nat] at hlk
    have HBW := Lib.hid hbw
    generalize w.heap.size = gi at d0 d1 d2 d3 hgl ⊢
    cases hp : placeN l l.length a with
    | none =>
      rw [hp] at hlk HJV
      simp only [Option.map_none, Option.getD_none, Option.isSome_none, Option.isNone_none, Bool.and_true] at hlk HJV
      clear hb2 hbw hp
      cases hj : jumpsN op with
      | true =>
        rw [hj] at HJ HJV
        rw [if_pos rfl] at HJV
        clear hj
        go_wp2_with fail
        go_quiet (fail)
        go_wp2_with fail
        refine (HJ.out _).mono ?_
        rintro e w3 ⟨rfl, hb3⟩
        go_wp2
        go_ret
        exact ⟨by rw [HJV.out]; rfl, (below_drewN HBW.out _).trans (hb3.mono (below_drewN HBW.out _).size)⟩
      | false =>
        rw [hj] at HJ HJV
        rw [if_neg (by simp)] at HJV
        clear hj
        go_wp2_with fail
        go_quiet (fail)
        go_wp2_with fail
        refine (HJ.out _).mono ?_
        rintro e w3 ⟨rfl, hb3⟩
        go_wp2
        go_ret
        exact ⟨by rw [HJV.out]; rfl, (below_drewN HBW.out _).trans (hb3.mono (below_drewN HBW.out _).size)⟩
    | some j =>
      rw [hp] at hlk HJV
      simp only [Option.map_some, Option.getD_some, Option.isSome_some, Option.isNone_some, Bool.and_false] at hlk HJV
      rw [if_neg (by simp)] at HJV
      clear hb2 hbw hp
      cases hj : jumpsN op with
      | true =>
        rw [hj] at HJ
        clear hj
        go_wp2_with fail
        go_quiet (fail)
        go_wp2_with fail
        refine (HJ.out _).mono ?_
        rintro e w3 ⟨rfl, hb3⟩
        go_wp2
        go_ret
        exact ⟨by rw [HJV.out]; rfl, (below_drewN HBW.out _).trans (hb3.mono (below_drewN HBW.out _).size)⟩
      | false =>
        rw [hj] at HJ
        clear hj
        go_wp2_with fail
        go_quiet (fail)
        go_wp2_with fail
        refine (HJ.out _).mono ?_
        rintro e w3 ⟨rfl, hb3⟩
        go_wp2
        go_ret
        exact ⟨by rw [HJV.out]; rfl, (below_drewN HBW.out _).trans (hb3.mono (below_drewN HBW.out _).size)⟩
end
/-- what Places makes -/
def PlacesDone (l : List InsT) (w : World) (en : Ending) (w' : World) : Prop := ∃ mb, en = .returned (.map (some mb)) ∧ MapAt Try.prog w' 3 mb l.length (placeZ l l.length) ∧ w.heap.size ≤ mb ∧ Below w.heap.size w w'
structure PlAt (w : World) (mb : Nat) (l : List InsT) (k : Nat) (wr : World) : Prop where
  map : MapAt Try.prog wr 3 mb k (placeZ l k)
  big : w.heap.size ≤ mb
  bel : Below w.heap.size w wr
set_option maxRecDepth 100000 in
set_option maxHeartbeats 2000000 in
theorem places_any (v : Value) (l : List InsT) (w : World) (hr : RowS w 4 v l.length (cellsI l)) (hl : l.length ≤ 1048576) (hat : ∀ x ∈ l, x.1 ≤ 1048576) :
    Calls Try.prog 62 #[v] w (PlacesDone l w) := by
  obtain ⟨a0, cap, rfl, h1, h2, h3, h4⟩ := hr.read
  unfold maxLen at h2
  have HC := Lib.hid (fun (i : Nat) (x : InsT) (hx : l[i]? = some x) => (show ∃ g off, a0 = some ⟨g, off, none⟩ ∧ g < w.heap.size ∧ w.cell? ⟨g, off + i * 4, none⟩ = some (.int .i64 (x.1 : Nat)) ∧ w.cell? ⟨g, off + i * 4 + 1, none⟩ = some (.int .i64 (x.2.1 : Nat)) ∧ w.cell? ⟨g, off + i * 4 + 2, none⟩ = some (.int .i64 (x.2.2.1 : Nat)) ∧ w.cell? ⟨g, off + i * 4 + 3, none⟩ = some (.int .i64 (x.2.2.2 : Nat)) by
    have c := fun j (hj : j < 4) => cellsI_at hx j hj
    obtain ⟨g, off, ha, hg, d0⟩ := h4 (i * 4 + 0) _ ((c 0 (by omega)).trans rfl)
    obtain ⟨_, _, e1, _, d1⟩ := h4 (i * 4 + 1) _ ((c 1 (by omega)).trans rfl)
    obtain ⟨_, _, e2, _, d2⟩ := h4 (i * 4 + 2) _ ((c 2 (by omega)).trans rfl)
    obtain ⟨_, _, e3, _, d3⟩ := h4 (i * 4 + 3) _ ((c 3 (by omega)).trans rfl)
    subst ha
    cases e1; cases e2; cases e3
    rw [Nat.add_zero] at d0
    exact ⟨g, off, rfl, hg, d0, by rw [Nat.add_assoc]; exact d1, by rw [Nat.add_assoc]; exact d2, by rw [Nat.add_assoc]; exact d3⟩))
  have HAT := Lib.hid hat
  have HS0 : Hid (PlAt w w.heap.size l 0 (w.alloc (.map #[] 0))) := (show PlAt w w.heap.size l 0 (w.alloc (.map #[] 0)) from ⟨(MapAt.made Try.prog w 3).congr (fun x _ => by unfold placeZ placeN; simp), Nat.le_refl _, (Below.refl _ _).alloc (Nat.le_refl _) _⟩)
  have hmm := @run_makeMap Try.prog
  clear hr h4 hat
  go_enter Try.func62, Try.ntmps62
  go_wp2_with fail
  generalize w.heap.size = mb at HS0 ⊢
  go_loopw [9] (fun i wr => ∃ (k : Nat), i = .int .i64 (k : Nat) ∧ k ≤ l.length ∧ Hid (PlAt w mb l k wr)) (fun i _ => l.length - (intOf i).toNat)
  case atStart => exact ⟨0, rfl, Nat.zero_le _, HS0⟩
  case round =>
    obtain ⟨k, rfl, hk, hs⟩ := hrel
    obtain ⟨wo, rfl⟩ : ∃ wo : World, wo = wr := ⟨_, rfl⟩
    by_cases hlt : k < l.length
    · obtain ⟨x, hx⟩ : ∃ x, l[k]? = some x := ⟨_, List.getElem?_eq_getElem hlt⟩
      obtain ⟨g, off, rfl, hg, d0, d1, d2, d3⟩ := HC.out k x hx
      have e0 := (hs.out.bel.cell (p := ⟨g, off + k * 4, none⟩) hg).trans d0
      have e1 := (hs.out.bel.cell (p := ⟨g, off + k * 4 + 1, none⟩) hg).trans d1
      have e2 := (hs.out.bel.cell (p := ⟨g, off + k * 4 + 2, none⟩) hg).trans d2
      have e3 := (hs.out.bel.cell (p := ⟨g, off + k * 4 + 3, none⟩) hg).trans d3
      have hi0 : (0 : Int) ≤ (k : Int) := by omega
      have hi1 : (k : Int) < (l.length : Int) := by omega
      have HX := Lib.hid hx
      have HXW : Hid ((Lit.int .i64 ((x.1 : Nat) : Int)).wf = true) := (show _ from WalkArith.wf_i64 (by have := HAT.out x (List.mem_of_getElem? hx); omega))
      have HML : Hid (k < maxLen) := (show k < maxLen by unfold maxLen; omega)
      have HMA := Lib.hid (fun (ob : Obj) => (show MapAt Try.prog (wo.alloc ob) 3 mb k (placeZ l k) from hs.out.map.keeps ((Keeps.refl [] wo).alloc ob) List.not_mem_nil))
      generalize hT : x.1 = t at e0 HXW
      generalize x.2.1 = t1 at e1
      generalize x.2.2.1 = t2 at e2
      generalize x.2.2.2 = t3 at e3
      have HT := Lib.hid hT
      clear d0 d1 d2 d3 hx hT
      go_wp2_with (at_mapUpdate; refine wpList_store (by rfl) (.tmp 14) (.tmp 16) (.tmp 17) 98 rfl 3 3 vz_key Try.underlying3 Try.underlying98 mb k _ rfl (HMA.out _) HML.out (t : Nat) (.int .i64 (k : Nat)) rfl rfl HXW.out ?_)
      intro w2 hm2 hg2
      have HS2 : Hid (PlAt w mb l (k + 1) w2) := (show PlAt w mb l (k + 1) w2 by
        have hsz := hs.out.bel.size
        have hbig := hs.out.big
        rw [← HT.out] at hm2
        rw [placeZ_succ l k x HX.out] at hm2
        refine ⟨hm2, hbig, (hs.out.bel.alloc hsz _).trans ⟨hg2.os, hg2.tape, hg2.output, hg2.size, fun j hj => hg2.block j (by rw [size_alloc]; omega) (fun e => by cases e; omega)⟩⟩)
      clear hm2 hg2
      go_wp2
      go_roundw
      case rel => first | exact ⟨k + 1, by go_num, by omega, HS2⟩ | ((repeat apply Exists.intro); exact ⟨⟨k + 1, by go_num, by omega, HS2⟩, rfl⟩)
      case measure => simp [intOf]; omega
    · obtain rfl : k = l.length := by omega
      clear hlt
      go_wp2
      go_ret
      exact ⟨mb, rfl, hs.out.map, hs.out.big, hs.out.bel⟩
end Go.Proofs.Yteipnfnbepnpjaa

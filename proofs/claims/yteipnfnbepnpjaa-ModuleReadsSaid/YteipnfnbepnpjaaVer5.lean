/- verify's next. -/
import Derived.Test.YteipnfnbepnpjaaVer4
import Derived.Deep.RegionWith
namespace Go.Proofs.Yteipnfnbepnpjaa
open Go.RowKit Go.Maps
set_option linter.unusedVariables false

/-- what is known of the instructions -/
structure OkL (l : List InsT) : Prop where
  len : l.length ≤ 4001
  num : ∀ x ∈ l, x.1 ≤ 4001 ∧ x.2.1 < 44 ∧ x.2.2.1 ≤ 65535 ∧ x.2.2.2 ≤ 65535
  jump : ∀ x ∈ l, jumpsN x.2.1 = true → (placeN l l.length x.2.2.1).isSome = true
theorem effN_le {op a b : Nat} (ha : a ≤ 65535) (hb : b ≤ 65535) : (effN 0 op a b).1 ≤ 65536 ∧ (effN 0 op a b).2 ≤ 2 := by
  unfold effN
  (repeat' split) <;> exact ⟨by simp only; omega, by simp only; omega⟩
section
variable {l : List InsT} {h : List Int} {wk : List Nat} {k : Nat} {y : Int}
theorem next_c1 (h1 : hN h k < ((effN 0 (iN l k).2.1 (iN l k).2.2.1 (iN l k).2.2.2).1 : Nat) ∨ 100 < behindN l h k) : nextN l h wk k = (((iN l k).1, 10), h, wk) := by unfold nextN; rw [if_pos h1]
variable (h1 : ¬ (hN h k < ((effN 0 (iN l k).2.1 (iN l k).2.2.1 (iN l k).2.2.2).1 : Nat) ∨ 100 < behindN l h k))
include h1
theorem next_c2 (hf : fallsN (iN l k).2.1 = true) (hk : k + 1 = l.length) : nextN l h wk k = (((iN l k).1, 11), h, wk) := by unfold nextN; rw [if_neg h1, if_pos hf, if_pos hk]
theorem next_c3 (hf : fallsN (iN l k).2.1 = true) (hk : ¬ k + 1 = l.length) (hc : (comeN h wk (k + 1) (behindN l h k)).1 = false) : nextN l h wk k = (((iN l (k + 1)).1, 10), (comeN h wk (k + 1) (behindN l h k)).2) := by unfold nextN; rw [if_neg h1, if_pos hf, if_neg hk, if_pos hc]
theorem next_c4 (hf : fallsN (iN l k).2.1 = true) (hk : ¬ k + 1 = l.length) (hc : (comeN h wk (k + 1) (behindN l h k)).1 = true) : nextN l h wk k = elseN l (comeN h wk (k + 1) (behindN l h k)).2.1 (comeN h wk (k + 1) (behindN l h k)).2.2 k (behindN l h k) := by unfold nextN; rw [if_neg h1, if_pos hf, if_neg hk, if_neg (by rw [hc]; simp)]
theorem next_c5 (hf : fallsN (iN l k).2.1 = false) : nextN l h wk k = elseN l h wk k (behindN l h k) := by unfold nextN; rw [if_neg h1, if_neg (by rw [hf]; simp)]
omit h1
theorem else_1 (hj : jumpsN (iN l k).2.1 = false) : elseN l h wk k y = ((0, 0), h, wk) := by unfold elseN; rw [if_pos hj]
theorem else_2 (hj : jumpsN (iN l k).2.1 = true) : elseN l h wk k y = jumpN l h wk k (if (iN l k).2.1 = 40 then y + 1 else y) := by unfold elseN; rw [if_neg (by rw [hj]; simp)]
theorem jump_1 (hy : 100 < y) : jumpN l h wk k y = (((iN l k).1, 10), h, wk) := by unfold jumpN; rw [if_pos hy]
theorem jump_2 {j : Nat} (hy : ¬ 100 < y) (hp : placeN l l.length (iN l k).2.2.1 = some j) (hc : (comeN h wk j y).1 = false) : jumpN l h wk k y = (((iN l j).1, 10), (comeN h wk j y).2) := by unfold jumpN; rw [if_neg hy, hp, Option.getD_some, if_pos hc]
theorem jump_3 {j : Nat} (hy : ¬ 100 < y) (hp : placeN l l.length (iN l k).2.2.1 = some j) (hc : (comeN h wk j y).1 = true) : jumpN l h wk k y = ((0, 0), (comeN h wk j y).2) := by unfold jumpN; rw [if_neg hy, hp, Option.getD_some, if_neg (by rw [hc]; simp)]
theorem comeN_len (x : Int) : (comeN h wk k x).2.1.length = h.length ∧ (comeN h wk k x).2.2.length ≤ wk.length + 1 := by
  unfold comeN
  split
  · exact ⟨by simp, by simp⟩
  · exact ⟨rfl, by simp⟩
end
section
variable {B pc fb mb N loc : Nat} {cv lv hv wv : Value} {l : List InsT} {h : List Int} {wk : List Nat} {w0 w w' : World}
/-- where next stands: the checker, and the copy of the instruction -/
structure NxAt (B pc fb mb N loc : Nat) (cv lv hv : Value) (l : List InsT) (gi : Nat) (x : InsT) (h : List Int) (wk : List Nat) (w0 w : World) : Prop where
  ck : ∃ wv, CkS B pc fb mb N loc cv lv hv wv l h wk w0 w ∧ gi ≠ pc ∧ hv.ownBlock ≠ some gi ∧ wv.ownBlock ≠ some gi
  ins : w.heap[gi]? = some (.cells #[.int .i64 (x.1 : Nat), .int .i64 (x.2.1 : Nat), .int .i64 (x.2.2.1 : Nat), .int .i64 (x.2.2.2 : Nat)] 30 (0, 0))
variable {gi : Nat} {x : InsT}
theorem NxAt.below (n : NxAt B pc fb mb N loc cv lv hv l gi x h wk w0 w) (hb : Below w.heap.size w w') : NxAt B pc fb mb N loc cv lv hv l gi x h wk w0 w' := by
  obtain ⟨⟨wv, c, c1⟩, c2⟩ := n
  exact ⟨⟨wv, c.below hb, c1⟩, (Keeps.of_below hb (Nat.le_refl _) []).at c2 List.not_mem_nil⟩
theorem NxAt.come (n : NxAt B pc fb mb N loc cv lv hv l gi x h wk w0 w) {wv : Value} (c : CkS B pc fb mb N loc cv lv hv wv l h wk w0 w) {h2 : List Int} {wk2 : List Nat} (d : ComeDone B pc fb mb N loc cv lv hv wv l h2 wk2 w0 w w') : NxAt B pc fb mb N loc cv lv hv l gi x h2 wk2 w0 w' := by
  obtain ⟨⟨wv1, c1, n1, n2, n3⟩, c2⟩ := n
  obtain ⟨wv2, c3, kk, hq⟩ := d
  have hgi := (Array.getElem?_eq_some_iff.1 c2).1
  have e : wv1 = wv := by
    have e1 := c1.cell 10
    have e2 := c.cell 10
    rw [e1] at e2
    simpa using e2
  subst e
  refine ⟨⟨wv2, c3, n1, n2, fun e => ?_⟩, kk.at c2 ?_⟩
  · rcases hq gi e with q | q
    · exact n3 q
    · omega
  · simp only [List.mem_cons, List.mem_append, not_or]
    refine ⟨n1, ?_, ?_⟩
    · cases ho : hv.ownBlock with
      | none => simp
      | some g => simp; intro e; exact n2 (by rw [ho, e])
    · cases ho : wv1.ownBlock with
      | none => simp
      | some g => simp; intro e; exact n3 (by rw [ho, e])
theorem NxAt.cells (n : NxAt B pc fb mb N loc cv lv hv l gi x h wk w0 w) : w.cell? ⟨gi, 0, none⟩ = some (.int .i64 (x.1 : Nat)) ∧ w.cell? ⟨gi, 1, none⟩ = some (.int .i64 (x.2.1 : Nat)) ∧ w.cell? ⟨gi, 2, none⟩ = some (.int .i64 (x.2.2.1 : Nat)) ∧ w.cell? ⟨gi, 3, none⟩ = some (.int .i64 (x.2.2.2 : Nat)) ∧
    w.cell? ⟨pc, 0, none⟩ = some (.int .i64 0) ∧ w.cell? ⟨pc, 1, none⟩ = some (.slice none 0 0) ∧ w.cell? ⟨pc, 2, none⟩ = some (.slice (some ⟨fb, 0, none⟩) 1 1) ∧ w.cell? ⟨pc, 3, none⟩ = some (.slice none 0 0) ∧ w.cell? ⟨pc, 7, none⟩ = some lv ∧ w.cell? ⟨pc, 8, none⟩ = some (.map (some mb)) ∧ w.cell? ⟨pc, 9, none⟩ = some hv := by
  obtain ⟨⟨wv, c, _⟩, c2⟩ := n
  exact ⟨cell_of_block c2, cell_of_block c2, cell_of_block c2, cell_of_block c2, c.cell 0, c.cell 1, c.cell 2, c.cell 3, c.cell 7, c.cell 8, c.cell 9⟩
/-- the place of an instruction -/
theorem NxAt.at_ (n : NxAt B pc fb mb N loc cv lv hv l gi x h wk w0 w) {g off cap i : Nat} (e : lv = .slice (some ⟨g, off, none⟩) l.length cap) (hi : i < l.length) : w.cell? ⟨g, off + i * 4, none⟩ = some (.int .i64 ((iN l i).1 : Nat)) := by
  obtain ⟨⟨wv, c, _⟩, c2⟩ := n
  have hx : l[i]? = some (iN l i) := by unfold iN; rw [List.getElem?_eq_getElem hi]; rfl
  obtain ⟨g2, off2, cap2, e2, _, _, _, d0, _⟩ := c.ins hx
  rw [e] at e2
  cases e2
  exact d0
theorem NxAt.height (n : NxAt B pc fb mb N loc cv lv hv l gi x h wk w0 w) {g off cap i : Nat} (e : hv = .slice (some ⟨g, off, none⟩) l.length cap) (hl : h.length = l.length) (hi : i < l.length) : w.cell? ⟨g, off + i, none⟩ = some (.int .i64 (hN h i)) := by
  obtain ⟨⟨wv, c, _⟩, c2⟩ := n
  subst e
  obtain ⟨g2, off2, e2, _, d0⟩ := row_cell (k := i) (S := h) (by have := c.hrow; rw [hl] at this; exact this) hl.symm hi
  cases e2
  exact d0
/-- what next leaves -/
def NextDone (B pc fb mb N loc : Nat) (cv lv hv : Value) (l : List InsT) (R : (Nat × Nat) × List Int × List Nat) (w0 : World) (en : Ending) (w' : World) : Prop :=
  en = .returned (.tuple #[.int .i64 (R.1.1 : Nat), .int .i64 (R.1.2 : Nat)]) ∧ ∃ wv, CkS B pc fb mb N loc cv lv hv wv l R.2.1 R.2.2 w0 w'
theorem NxAt.done (n : NxAt B pc fb mb N loc cv lv hv l gi x h wk w0 w) {R : (Nat × Nat) × List Int × List Nat} {t e : Nat} (hR : R = ((t, e), h, wk)) : NextDone B pc fb mb N loc cv lv hv l R w0 (.returned (.tuple #[.int .i64 (t : Nat), .int .i64 (e : Nat)])) w := by
  subst hR
  obtain ⟨⟨wv, c, _⟩, _⟩ := n
  exact ⟨rfl, wv, c⟩
set_option maxRecDepth 100000 in
set_option maxHeartbeats 8000000 in
theorem next_any (k : Nat) (w : World) (c : CkS B pc fb mb N loc cv lv hv wv l h wk w0 w) (ok : OkL l) (hk : k < l.length) (hl : h.length = l.length) (hwl : wk.length ≤ 1048000) (hz0 : 0 ≤ hN h k) (hz1 : hN h k ≤ 100) :
    Calls Try.prog 66 #[.pointer (some ⟨pc, 0, none⟩), .int .i64 (k : Nat)] w (NextDone B pc fb mb N loc cv lv hv l (nextN l h wk k) w0) := by
  have hx : l[k]? = some (iN l k) := by unfold iN; rw [List.getElem?_eq_getElem hk]; rfl
  obtain ⟨o1, o2, o3, o4⟩ := ok.num _ (List.mem_of_getElem? hx)
  have hjp := ok.jump _ (List.mem_of_getElem? hx)
  obtain ⟨lg, loff, lcap, hlv, hlg, hlc, hlm, d0, d1, d2, d3⟩ := c.ins hx
  obtain ⟨ha, hcap, hve, hc1, hc2, _⟩ := c.hrow.read
  obtain ⟨g, off, hae, hgl, _⟩ := row_cell (by have := c.hrow; rw [hve] at this; exact this) rfl (show k < h.length by omega)
  subst hae
  rw [hl] at hve hc1
  unfold maxLen at hc2
  have HLV := Lib.hid hlv
  have HHV := Lib.hid hve
  have c7 : w.cell? ⟨pc, 7, none⟩ = some lv := c.cell 7
  rw [hlv] at c7
  obtain ⟨x, hxe⟩ : ∃ x, x = iN l k := ⟨_, rfl⟩
  rw [← hxe] at hx o1 o2 o3 o4 hjp d0 d1 d2 d3
  have HXE := Lib.hid hxe
  have HX := Lib.hid hx
  obtain ⟨gi, hgi⟩ : ∃ gi, gi = w.heap.size := ⟨_, rfl⟩
  obtain ⟨w1, hw1⟩ : ∃ w1, w1 = w.alloc (.cells #[.int .i64 (x.1 : Nat), .int .i64 (x.2.1 : Nat), .int .i64 (x.2.2.1 : Nat), .int .i64 (x.2.2.2 : Nat)] 30) := ⟨_, rfl⟩
  have HN1 : Hid (NxAt B pc fb mb N loc cv lv hv l gi x h wk w0 w1) := (show NxAt B pc fb mb N loc cv lv hv l gi x h wk w0 w1 by
    have hp := c.lt
    refine ⟨⟨wv, c.below (by rw [hw1]; exact (Below.refl _ _).alloc (Nat.le_refl _) _), by omega, fun e => ?_, fun e => ?_⟩, by rw [hw1, hgi]; exact heap_alloc_at _ _⟩
    · have := c.hrow.lt gi e; omega
    · have := c.wrow.lt gi e; omega)
  have HW1 := Lib.hid hw1
  have HGI := Lib.hid hgi
  have HND := Lib.hid (HN1.out.below (Below.refl _ _).drew)
  have HE := Lib.hid (effect_any (x.1 : Nat) x.2.1 x.2.2.1 x.2.2.2 w1.drew (.int .i64 0) (.slice none 0 0) (.slice none 0 0) (some ⟨fb, 0, none⟩) 1 1 0 o3 o2 (fun h1 => ⟨fb, 0, rfl, by
      obtain ⟨⟨wv, c', _⟩, _⟩ := HND.out
      have e0 : x.2.2.1 = 0 := by omega
      rw [e0]
      exact c'.fun_⟩) (fun _ => rfl))
  unfold EffDone at HE
  have hle := effN_le (op := x.2.1) o3 o4
  obtain ⟨e1, he1⟩ : ∃ e1, e1 = (effN 0 x.2.1 x.2.2.1 x.2.2.2).1 := ⟨_, rfl⟩
  obtain ⟨e2, he2⟩ : ∃ e2, e2 = (effN 0 x.2.1 x.2.2.1 x.2.2.2).2 := ⟨_, rfl⟩
  rw [← he1, ← he2] at HE hle
  obtain ⟨hle1, hle2⟩ := hle
  have HBE : Hid (behindN l h k = hN h k - (e1 : Nat) + (e2 : Nat)) := (show behindN l h k = hN h k - (e1 : Nat) + (e2 : Nat) by unfold behindN; rw [← hxe, ← he1, ← he2])
  have HE1 : Hid (e1 = (effN 0 (iN l k).2.1 (iN l k).2.2.1 (iN l k).2.2.2).1) := (show e1 = (effN 0 (iN l k).2.1 (iN l k).2.2.1 (iN l k).2.2.2).1 by rw [← hxe]; exact he1)
  have HFA := Lib.hid (fun w => falls_any (x.1 : Nat) x.2.1 x.2.2.1 x.2.2.2 w)
  have HJA := Lib.hid (fun w => jumps_any (x.1 : Nat) x.2.1 x.2.2.1 x.2.2.2 w)
  have HCM := Lib.hid (fun (j : Nat) (y : Int) (h2 : List Int) (wk2 : List Nat) (W : World) (n : NxAt B pc fb mb N loc cv lv hv l gi x h2 wk2 w0 W) (hj : j < l.length) (hl2 : h2.length = l.length) (hw2 : wk2.length ≤ 1048100) (hy : 0 ≤ y) => (show Calls Try.prog 65 #[.pointer (some ⟨pc, 0, none⟩), .int .i64 (j : Nat), .int .i64 y] W fun e w' => e = .returned (.bool (comeN h2 wk2 j y).1) ∧ NxAt B pc fb mb N loc cv lv hv l gi x (comeN h2 wk2 j y).2.1 (comeN h2 wk2 j y).2.2 w0 w' by
    obtain ⟨wv2, c2, _⟩ := n.ck
    refine (come_any j y W c2 (by omega) (by have := ok.len; omega) (by omega) hy).mono ?_
    rintro e w' ⟨rfl, hd⟩
    exact ⟨rfl, n.come c2 hd⟩))
  have HMP := Lib.hid (fun (h2 : List Int) (wk2 : List Nat) (W : World) (n : NxAt B pc fb mb N loc cv lv hv l gi x h2 wk2 w0 W) (m : Nat) => (show _ from (by
    obtain ⟨wv2, c2, _⟩ := n.ck
    exact (c2.map.drewN m).look vz_key Try.underlying3 Try.underlying98 (vz_zero _) (x := ((x.2.2.1 : Nat) : Int)) (WalkArith.wf_i64 (by omega)) : (Instr.lookup 98 (.map (some mb)) (.int .i64 ((x.2.2.1 : Nat) : Int)) false).run Try.prog (W.drewN m) = .ok ((placeZ l l.length ((x.2.2.1 : Nat) : Int)).getD (.int .i64 0)) (W.drewN m))))
  have HJP := Lib.hid hjp
  have HOK := Lib.hid ok
  have hlen := ok.len
  obtain ⟨z, hze⟩ : ∃ z, z = hN h k := ⟨_, rfl⟩
  have HZ := Lib.hid hze
  rw [← hze] at hz0 hz1
  rw [← hze] at HBE
  have hk0 : (0 : Int) ≤ (k : Int) := by omega
  have hk1 : (k : Int) < (l.length : Int) := by omega
  have HHT := Lib.hid (fun (W : World) (n : NxAt B pc fb mb N loc cv lv hv l gi x h wk w0 W) => (show W.cell? ⟨g, off + k, none⟩ = some (.int .i64 z) by rw [HZ.out]; exact n.height HHV.out hl hk))
  have hil : gi < w1.heap.size := (Array.getElem?_eq_some_iff.1 HN1.out.ins).1
  obtain ⟨t, op, a, b⟩ := x
  dsimp only at *
  generalize hLN : nextN l h wk k = R
  have HR := Lib.hid hLN
  clear hLN c ok hx hjp hlv hve hxe hgi hw1 he1 he2 hze
  go_enter Try.func66, Try.ntmps66
  go_wp2_with fail
  rw [← HW1.out, ← HGI.out]
  obtain ⟨i0, i1, i2, i3, m0, m1, m2, m3, m7, m8, m9⟩ := HN1.out.cells
  dsimp only at i0 i1 i2 i3
  have HQ2 := Lib.hid (fun (w2 : World) (hb2 : Below w1.drew.heap.size w1.drew w2) => (show _ from (by
    obtain ⟨i0, i1, i2, i3, m0, m1, m2, m3, _⟩ := (HND.out.below hb2).cells
    exact ⟨i0, i1, i2, i3, m0, m1, m2, m3⟩ : w2.cell? ⟨gi, 0, none⟩ = some (.int .i64 (t : Nat)) ∧ w2.cell? ⟨gi, 1, none⟩ = some (.int .i64 (op : Nat)) ∧ w2.cell? ⟨gi, 2, none⟩ = some (.int .i64 (a : Nat)) ∧ w2.cell? ⟨gi, 3, none⟩ = some (.int .i64 (b : Nat)) ∧
    w2.cell? ⟨pc, 0, none⟩ = some (.int .i64 0) ∧ w2.cell? ⟨pc, 1, none⟩ = some (.slice none 0 0) ∧ w2.cell? ⟨pc, 2, none⟩ = some (.slice (some ⟨fb, 0, none⟩) 1 1) ∧ w2.cell? ⟨pc, 3, none⟩ = some (.slice none 0 0))))
  go_region_held3 (fun w2 => w2.cell? ⟨gi, 0, none⟩ = some (.int .i64 (t : Nat)) ∧ w2.cell? ⟨gi, 1, none⟩ = some (.int .i64 (op : Nat)) ∧ w2.cell? ⟨gi, 2, none⟩ = some (.int .i64 (a : Nat)) ∧ w2.cell? ⟨gi, 3, none⟩ = some (.int .i64 (b : Nat)) ∧
    w2.cell? ⟨pc, 0, none⟩ = some (.int .i64 0) ∧ w2.cell? ⟨pc, 1, none⟩ = some (.slice none 0 0) ∧ w2.cell? ⟨pc, 2, none⟩ = some (.slice (some ⟨fb, 0, none⟩) 1 1) ∧ w2.cell? ⟨pc, 3, none⟩ = some (.slice none 0 0))
    (first | go_keep | exact q2)
    (first | (go_at_call 37; refine HE.out.mono ?_; rintro en w2 ⟨rfl, hb2⟩; have q2 := HQ2.out w2 hb2))
  clear i0 i1 i2 i3 m0 m1 m2 m3 m7 m8 m9 q2
  have HN2 := Lib.hid (HND.out.below hb2)
  clear hb2
  obtain ⟨i0, i1, i2, i3, m0, m1, m2, m3, m7, m8, m9⟩ := HN2.out.cells
  rw [HLV.out] at m7
  rw [HHV.out] at m9
  dsimp only at i0 i1 i2 i3
  have mh := HHT.out w2 HN2.out
  by_cases hc1 : z < (e1 : Int)
  · have HV : Hid (R = (((iN l k).1, 10), h, wk)) := (show _ from HR.out.symm.trans (next_c1 (.inl (by rw [← HZ.out, ← HE1.out]; exact hc1))))
    have HTE : Hid ((iN l k).1 = t) := (show (iN l k).1 = t by rw [← HXE.out])
    go_wp2
    go_ret2
    rw [← HTE.out]
    exact HN2.out.done HV.out
  by_cases hc2 : 100 < z - (e1 : Int) + (e2 : Int)
  · have HV : Hid (R = (((iN l k).1, 10), h, wk)) := (show _ from HR.out.symm.trans (next_c1 (.inr (by rw [HBE.out]; exact hc2))))
    have HTE : Hid ((iN l k).1 = t) := (show (iN l k).1 = t by rw [← HXE.out])
    go_wp2
    go_ret2
    rw [← HTE.out]
    exact HN2.out.done HV.out
  have HNO : Hid (¬ (hN h k < ((effN 0 (iN l k).2.1 (iN l k).2.2.1 (iN l k).2.2.2).1 : Nat) ∨ 100 < behindN l h k)) := (show ¬ _ by
    rw [← HZ.out, ← HE1.out, HBE.out]
    rintro (q | q)
    · exact hc1 q
    · exact hc2 q)
  cases hf : fallsN op with
  | true =>
    rw [hf] at HFA
    have HFT : Hid (fallsN (iN l k).2.1 = true) := (show _ by rw [← HXE.out]; exact hf)
    clear hf
    go_wp2_with fail
    refine (HFA.out _).mono ?_
    rintro en w3 ⟨rfl, hb3⟩
    have HN3 := Lib.hid (HN2.out.below hb3)
    clear hb3 mh i0 i1 i2 i3 m0 m1 m2 m3 m7 m8 m9
    obtain ⟨i0, i1, i2, i3, m0, m1, m2, m3, m7, m8, m9⟩ := HN3.out.cells
    rw [HLV.out] at m7
    rw [HHV.out] at m9
    dsimp only at i0 i1 i2 i3
    by_cases hlast : k + 1 = l.length
    · have HV : Hid (R = (((iN l k).1, 11), h, wk)) := (show _ from HR.out.symm.trans (next_c2 HNO.out HFT.out hlast))
      have HTE : Hid ((iN l k).1 = t) := (show (iN l k).1 = t by rw [← HXE.out])
      have hb4 : ((k : Int) + 1 == (l.length : Int)) = true := by rw [beq_iff_eq]; omega
      go_wp2
      go_ret2
      rw [← HTE.out]
      exact HN3.out.done HV.out
    · have hb4 : ((k : Int) + 1 == (l.length : Int)) = false := by rw [beq_eq_false_iff_ne]; omega
      have HLA := Lib.hid hlast
      have hk2 : k + 1 < l.length := by omega
      clear hlast
      go_wp2_with fail
      refine (HFA.out _).mono ?_
      rintro en w4 ⟨rfl, hb5⟩
      have HN4 := Lib.hid (HN3.out.below hb5)
      clear hb5 i0 i1 i2 i3 m0 m1 m2 m3 m7 m8 m9
      have HC5 := Lib.hid (HCM.out (k + 1) (z - (e1 : Int) + (e2 : Int)) h wk w4 HN4.out hk2 hl (by omega) (by omega))
      obtain ⟨i0, i1, i2, i3, m0, m1, m2, m3, m7, m8, m9⟩ := HN4.out.cells
      rw [HLV.out] at m7
      rw [HHV.out] at m9
      dsimp only at i0 i1 i2 i3
      cases hc : (comeN h wk (k + 1) (z - (e1 : Int) + (e2 : Int))).1 with
      | false =>
        rw [hc] at HC5
        have HV : Hid (R = (((iN l (k + 1)).1, 10), (comeN h wk (k + 1) (z - (e1 : Int) + (e2 : Int))).2)) := (show _ by
          have q := next_c3 (wk := wk) HNO.out HFT.out HLA.out (by rw [HBE.out]; exact hc)
          rw [HBE.out] at q
          exact HR.out.symm.trans q)
        clear hc
        go_wp2_with fail
        refine (by have := HC5.out; simpa using this : Calls _ _ _ _ _).mono ?_
        rintro en w5 ⟨rfl, n5⟩
        have HN5 := Lib.hid n5
        have e7 := n5.cells.2.2.2.2.2.2.2.2.1
        have eat := n5.at_ HLV.out hk2
        rw [HLV.out] at e7
        clear n5
        have hq0 : (0 : Int) ≤ (k : Int) + 1 := by omega
        have hq1 : (k : Int) + 1 < (l.length : Int) := by omega
        go_wp2
        go_ret2
        exact HN5.out.done HV.out
      | true =>
        rw [hc] at HC5
        have hv5 : nextN l h wk k = elseN l (comeN h wk (k + 1) (z - (e1 : Int) + (e2 : Int))).2.1 (comeN h wk (k + 1) (z - (e1 : Int) + (e2 : Int))).2.2 k (behindN l h k) := by
          have q := next_c4 (wk := wk) HNO.out HFT.out HLA.out (by rw [HBE.out]; exact hc)
          rw [HBE.out] at q ⊢
          exact q
        have HV5 := Lib.hid hv5
        clear hv5
        have HL5 := Lib.hid (comeN_len (h := h) (wk := wk) (k := k + 1) (z - (e1 : Int) + (e2 : Int)))
        clear hc
        go_wp2_with fail
        refine (by have := HC5.out; simpa using this : Calls _ _ _ _ _).mono ?_
        rintro en w5 ⟨rfl, n5⟩
        have HN5 := Lib.hid n5
        clear n5 i0 i1 i2 i3 m0 m1 m2 m3 m7 m8 m9
        cases hj : jumpsN op with
        | false =>
          rw [hj] at HJA
          have HV : Hid (R = ((0, 0), (comeN h wk (k + 1) (z - (e1 : Int) + (e2 : Int))).2.1, (comeN h wk (k + 1) (z - (e1 : Int) + (e2 : Int))).2.2)) := (show R = ((0, 0), (comeN h wk (k + 1) (z - (e1 : Int) + (e2 : Int))).2.1, (comeN h wk (k + 1) (z - (e1 : Int) + (e2 : Int))).2.2) by rw [← HR.out, HV5.out, else_1 (by rw [← HXE.out]; exact hj)])
          clear hj
          obtain ⟨i0, i1, i2, i3, m0, m1, m2, m3, m7, m8, m9⟩ := HN5.out.cells
          rw [HLV.out] at m7
          rw [HHV.out] at m9
          dsimp only at i0 i1 i2 i3
          go_wp2_with fail
          refine (HJA.out _).mono ?_
          rintro en w8 ⟨rfl, hb8⟩
          have HF := Lib.hid ((HN5.out.below hb8).done HV.out)
          clear hb8 i0 i1 i2 i3 m0 m1 m2 m3 m7 m8 m9
          go_wp2
          go_ret2
          exact HF.out
        | true =>
          rw [hj] at HJA
          obtain ⟨j, hpj⟩ := Option.isSome_iff_exists.1 (HJP.out hj)
          have hjl : j < l.length := placeN_lt l _ _ _ hpj
          have HPJ : Hid (placeN l l.length (iN l k).2.2.1 = some j) := (show placeN l l.length (iN l k).2.2.1 = some j by rw [← HXE.out]; exact hpj)
          have HPZ : Hid ((placeZ l l.length ((a : Nat) : Int)).getD (.int .i64 0) = .int .i64 (j : Nat)) := (show (placeZ l l.length ((a : Nat) : Int)).getD (.int .i64 0) = .int .i64 (j : Nat) by rw [placeZ_nat, hpj]; rfl)
          have HV0 : Hid (R = jumpN l ((comeN h wk (k + 1) (z - (e1 : Int) + (e2 : Int))).2.1) ((comeN h wk (k + 1) (z - (e1 : Int) + (e2 : Int))).2.2) k (if op = 40 then (z - (e1 : Int) + (e2 : Int)) + 1 else (z - (e1 : Int) + (e2 : Int)))) := (show R = jumpN l ((comeN h wk (k + 1) (z - (e1 : Int) + (e2 : Int))).2.1) ((comeN h wk (k + 1) (z - (e1 : Int) + (e2 : Int))).2.2) k (if op = 40 then (z - (e1 : Int) + (e2 : Int)) + 1 else (z - (e1 : Int) + (e2 : Int))) by rw [← HR.out, HV5.out, else_2 (by rw [← HXE.out]; exact hj), HBE.out, ← HXE.out])
          clear hj hpj
          obtain ⟨i0, i1, i2, i3, m0, m1, m2, m3, m7, m8, m9⟩ := HN5.out.cells
          rw [HLV.out] at m7
          rw [HHV.out] at m9
          dsimp only at i0 i1 i2 i3
          go_wp2_with fail
          refine (HJA.out _).mono ?_
          rintro en w8 ⟨rfl, hb8⟩
          have HN8 := Lib.hid (HN5.out.below hb8)
          clear hb8 i0 i1 i2 i3 m0 m1 m2 m3 m7 m8 m9
          obtain ⟨i0, i1, i2, i3, m0, m1, m2, m3, m7, m8, m9⟩ := HN8.out.cells
          rw [HLV.out] at m7
          rw [HHV.out] at m9
          dsimp only at i0 i1 i2 i3
          have hlk := HMP.out _ _ w8 HN8.out
          rw [HPZ.out] at hlk
          obtain ⟨yy, hyy⟩ : ∃ yy : Int, yy = (if op = 40 then (z - (e1 : Int) + (e2 : Int)) + 1 else (z - (e1 : Int) + (e2 : Int))) := ⟨_, rfl⟩
          rw [← hyy] at HV0
          have HN9 := Lib.hid (fun (n : Nat) => HN8.out.below (below_drewN (Below.refl _ w8) n))
          have HTA := Lib.hid (fun (n : Nat) => (HN9.out n).at_ HLV.out hjl)
          have hjn0 : (0 : Int) ≤ (j : Int) := by omega
          have hjn1 : (j : Int) < (l.length : Int) := by omega
          by_cases h40 : op = 40
          · rw [if_pos h40] at hyy
            have b40 : ((op : Int) == 40) = true := by rw [beq_iff_eq]; omega
            clear h40
            by_cases hbig : 100 < yy
            · have HV : Hid (R = (((iN l k).1, 10), (comeN h wk (k + 1) (z - (e1 : Int) + (e2 : Int))).2.1, (comeN h wk (k + 1) (z - (e1 : Int) + (e2 : Int))).2.2)) := (show _ from HV0.out.trans (jump_1 hbig))
              have HTE : Hid ((iN l k).1 = t) := (show (iN l k).1 = t by rw [← HXE.out])
              have hb3 : (100 : Int) < (z - (e1 : Int) + (e2 : Int)) + 1 := by omega
              clear hbig
              go_wp2_with fail
              go_quiet (fail)
              go_wp2
              go_ret2
              rw [← HTE.out]
              exact (HN9.out _).done HV.out
            · have hb3 : ¬ (100 : Int) < (z - (e1 : Int) + (e2 : Int)) + 1 := by omega
              have HC9 := Lib.hid (fun (n : Nat) => HCM.out j yy _ _ (w8.drewN n) (HN9.out n) hjl (HL5.out.1.trans hl) (by have := HL5.out.2; omega) (by omega))
              obtain ⟨CM, hCM⟩ : ∃ CM, CM = comeN ((comeN h wk (k + 1) (z - (e1 : Int) + (e2 : Int))).2.1) ((comeN h wk (k + 1) (z - (e1 : Int) + (e2 : Int))).2.2) j yy := ⟨_, rfl⟩
              rw [← hCM] at HC9
              cases hc : CM.1 with
              | false =>
                rw [hc] at HC9
                have HV : Hid (R = (((iN l j).1, 10), CM.2)) := (show R = (((iN l j).1, 10), CM.2) by rw [hCM]; exact HV0.out.trans (jump_2 hbig HPJ.out (by rw [← hCM]; exact hc)))
                rw [hyy] at HC9
                clear hbig hc hCM
                go_wp2_with fail
                go_quiet (fail)
                go_wp2_with fail
                refine (HC9.out _).mono ?_
                rintro en w9 ⟨rfl, n9⟩
                have HNZ := Lib.hid n9
                have e7 := n9.cells.2.2.2.2.2.2.2.2.1
                have eat := n9.at_ HLV.out hjl
                rw [HLV.out] at e7
                clear n9
                go_wp2
                go_ret2
                exact HNZ.out.done HV.out
              | true =>
                rw [hc] at HC9
                have HV : Hid (R = ((0, 0), CM.2)) := (show R = ((0, 0), CM.2) by rw [hCM]; exact HV0.out.trans (jump_3 hbig HPJ.out (by rw [← hCM]; exact hc)))
                rw [hyy] at HC9
                clear hbig hc hCM
                go_wp2_with fail
                go_quiet (fail)
                go_wp2_with fail
                refine (HC9.out _).mono ?_
                rintro en w9 ⟨rfl, n9⟩
                have HNZ := Lib.hid n9
                clear n9
                go_wp2
                go_ret2
                exact HNZ.out.done HV.out
          · rw [if_neg h40] at hyy
            have b40 : ((op : Int) == 40) = false := by rw [beq_eq_false_iff_ne]; omega
            clear h40
            by_cases hbig : 100 < yy
            · exfalso; omega
            · have hb3 : ¬ (100 : Int) < (z - (e1 : Int) + (e2 : Int)) := by omega
              have HC9 := Lib.hid (fun (n : Nat) => HCM.out j yy _ _ (w8.drewN n) (HN9.out n) hjl (HL5.out.1.trans hl) (by have := HL5.out.2; omega) (by omega))
              obtain ⟨CM, hCM⟩ : ∃ CM, CM = comeN ((comeN h wk (k + 1) (z - (e1 : Int) + (e2 : Int))).2.1) ((comeN h wk (k + 1) (z - (e1 : Int) + (e2 : Int))).2.2) j yy := ⟨_, rfl⟩
              rw [← hCM] at HC9
              cases hc : CM.1 with
              | false =>
                rw [hc] at HC9
                have HV : Hid (R = (((iN l j).1, 10), CM.2)) := (show R = (((iN l j).1, 10), CM.2) by rw [hCM]; exact HV0.out.trans (jump_2 hbig HPJ.out (by rw [← hCM]; exact hc)))
                rw [hyy] at HC9
                clear hbig hc hCM
                go_wp2_with fail
                go_quiet (fail)
                go_wp2_with fail
                refine (HC9.out _).mono ?_
                rintro en w9 ⟨rfl, n9⟩
                have HNZ := Lib.hid n9
                have e7 := n9.cells.2.2.2.2.2.2.2.2.1
                have eat := n9.at_ HLV.out hjl
                rw [HLV.out] at e7
                clear n9
                go_wp2
                go_ret2
                exact HNZ.out.done HV.out
              | true =>
                rw [hc] at HC9
                have HV : Hid (R = ((0, 0), CM.2)) := (show R = ((0, 0), CM.2) by rw [hCM]; exact HV0.out.trans (jump_3 hbig HPJ.out (by rw [← hCM]; exact hc)))
                rw [hyy] at HC9
                clear hbig hc hCM
                go_wp2_with fail
                go_quiet (fail)
                go_wp2_with fail
                refine (HC9.out _).mono ?_
                rintro en w9 ⟨rfl, n9⟩
                have HNZ := Lib.hid n9
                clear n9
                go_wp2
                go_ret2
                exact HNZ.out.done HV.out
  | false =>
    rw [hf] at HFA
    have HFT : Hid (fallsN (iN l k).2.1 = false) := (show _ by rw [← HXE.out]; exact hf)
    have HV5 : Hid (nextN l h wk k = elseN l h wk k (behindN l h k)) := (show _ from next_c5 HNO.out HFT.out)
    clear hf
    go_wp2_with fail
    refine (HFA.out _).mono ?_
    rintro en w3 ⟨rfl, hb3⟩
    have HN3 := Lib.hid (HN2.out.below hb3)
    clear hb3 mh i0 i1 i2 i3 m0 m1 m2 m3 m7 m8 m9
    obtain ⟨i0, i1, i2, i3, m0, m1, m2, m3, m7, m8, m9⟩ := HN3.out.cells
    rw [HLV.out] at m7
    rw [HHV.out] at m9
    dsimp only at i0 i1 i2 i3
    go_wp2_with fail
    refine (HFA.out _).mono ?_
    rintro en w4 ⟨rfl, hb5⟩
    have HN5 := Lib.hid (HN3.out.below hb5)
    clear hb5 i0 i1 i2 i3 m0 m1 m2 m3 m7 m8 m9
    cases hj : jumpsN op with
    | false =>
      rw [hj] at HJA
      have HV : Hid (R = ((0, 0), h, wk)) := (show R = ((0, 0), h, wk) by rw [← HR.out, HV5.out, else_1 (by rw [← HXE.out]; exact hj)])
      clear hj
      obtain ⟨i0, i1, i2, i3, m0, m1, m2, m3, m7, m8, m9⟩ := HN5.out.cells
      rw [HLV.out] at m7
      rw [HHV.out] at m9
      dsimp only at i0 i1 i2 i3
      go_wp2_with fail
      refine (HJA.out _).mono ?_
      rintro en w8 ⟨rfl, hb8⟩
      have HF := Lib.hid ((HN5.out.below hb8).done HV.out)
      clear hb8 i0 i1 i2 i3 m0 m1 m2 m3 m7 m8 m9
      go_wp2
      go_ret2
      exact HF.out
    | true =>
      rw [hj] at HJA
      obtain ⟨j, hpj⟩ := Option.isSome_iff_exists.1 (HJP.out hj)
      have hjl : j < l.length := placeN_lt l _ _ _ hpj
      have HPJ : Hid (placeN l l.length (iN l k).2.2.1 = some j) := (show placeN l l.length (iN l k).2.2.1 = some j by rw [← HXE.out]; exact hpj)
      have HPZ : Hid ((placeZ l l.length ((a : Nat) : Int)).getD (.int .i64 0) = .int .i64 (j : Nat)) := (show (placeZ l l.length ((a : Nat) : Int)).getD (.int .i64 0) = .int .i64 (j : Nat) by rw [placeZ_nat, hpj]; rfl)
      have HV0 : Hid (R = jumpN l (h) (wk) k (if op = 40 then (z - (e1 : Int) + (e2 : Int)) + 1 else (z - (e1 : Int) + (e2 : Int)))) := (show R = jumpN l (h) (wk) k (if op = 40 then (z - (e1 : Int) + (e2 : Int)) + 1 else (z - (e1 : Int) + (e2 : Int))) by rw [← HR.out, HV5.out, else_2 (by rw [← HXE.out]; exact hj), HBE.out, ← HXE.out])
      clear hj hpj
      obtain ⟨i0, i1, i2, i3, m0, m1, m2, m3, m7, m8, m9⟩ := HN5.out.cells
      rw [HLV.out] at m7
      rw [HHV.out] at m9
      dsimp only at i0 i1 i2 i3
      go_wp2_with fail
      refine (HJA.out _).mono ?_
      rintro en w8 ⟨rfl, hb8⟩
      have HN8 := Lib.hid (HN5.out.below hb8)
      clear hb8 i0 i1 i2 i3 m0 m1 m2 m3 m7 m8 m9
      obtain ⟨i0, i1, i2, i3, m0, m1, m2, m3, m7, m8, m9⟩ := HN8.out.cells
      rw [HLV.out] at m7
      rw [HHV.out] at m9
      dsimp only at i0 i1 i2 i3
      have hlk := HMP.out _ _ w8 HN8.out
      rw [HPZ.out] at hlk
      obtain ⟨yy, hyy⟩ : ∃ yy : Int, yy = (if op = 40 then (z - (e1 : Int) + (e2 : Int)) + 1 else (z - (e1 : Int) + (e2 : Int))) := ⟨_, rfl⟩
      rw [← hyy] at HV0
      have HN9 := Lib.hid (fun (n : Nat) => HN8.out.below (below_drewN (Below.refl _ w8) n))
      have HTA := Lib.hid (fun (n : Nat) => (HN9.out n).at_ HLV.out hjl)
      have hjn0 : (0 : Int) ≤ (j : Int) := by omega
      have hjn1 : (j : Int) < (l.length : Int) := by omega
      by_cases h40 : op = 40
      · rw [if_pos h40] at hyy
        have b40 : ((op : Int) == 40) = true := by rw [beq_iff_eq]; omega
        clear h40
        by_cases hbig : 100 < yy
        · have HV : Hid (R = (((iN l k).1, 10), h, wk)) := (show _ from HV0.out.trans (jump_1 hbig))
          have HTE : Hid ((iN l k).1 = t) := (show (iN l k).1 = t by rw [← HXE.out])
          have hb3 : (100 : Int) < (z - (e1 : Int) + (e2 : Int)) + 1 := by omega
          clear hbig
          go_wp2_with fail
          go_quiet (fail)
          go_wp2
          go_ret2
          rw [← HTE.out]
          exact (HN9.out _).done HV.out
        · have hb3 : ¬ (100 : Int) < (z - (e1 : Int) + (e2 : Int)) + 1 := by omega
          have HC9 := Lib.hid (fun (n : Nat) => HCM.out j yy _ _ (w8.drewN n) (HN9.out n) hjl hl (by omega) (by omega))
          obtain ⟨CM, hCM⟩ : ∃ CM, CM = comeN (h) (wk) j yy := ⟨_, rfl⟩
          rw [← hCM] at HC9
          cases hc : CM.1 with
          | false =>
            rw [hc] at HC9
            have HV : Hid (R = (((iN l j).1, 10), CM.2)) := (show R = (((iN l j).1, 10), CM.2) by rw [hCM]; exact HV0.out.trans (jump_2 hbig HPJ.out (by rw [← hCM]; exact hc)))
            rw [hyy] at HC9
            clear hbig hc hCM
            go_wp2_with fail
            go_quiet (fail)
            go_wp2_with fail
            refine (HC9.out _).mono ?_
            rintro en w9 ⟨rfl, n9⟩
            have HNZ := Lib.hid n9
            have e7 := n9.cells.2.2.2.2.2.2.2.2.1
            have eat := n9.at_ HLV.out hjl
            rw [HLV.out] at e7
            clear n9
            go_wp2
            go_ret2
            exact HNZ.out.done HV.out
          | true =>
            rw [hc] at HC9
            have HV : Hid (R = ((0, 0), CM.2)) := (show R = ((0, 0), CM.2) by rw [hCM]; exact HV0.out.trans (jump_3 hbig HPJ.out (by rw [← hCM]; exact hc)))
            rw [hyy] at HC9
            clear hbig hc hCM
            go_wp2_with fail
            go_quiet (fail)
            go_wp2_with fail
            refine (HC9.out _).mono ?_
            rintro en w9 ⟨rfl, n9⟩
            have HNZ := Lib.hid n9
            clear n9
            go_wp2
            go_ret2
            exact HNZ.out.done HV.out
      · rw [if_neg h40] at hyy
        have b40 : ((op : Int) == 40) = false := by rw [beq_eq_false_iff_ne]; omega
        clear h40
        by_cases hbig : 100 < yy
        · exfalso; omega
        · have hb3 : ¬ (100 : Int) < (z - (e1 : Int) + (e2 : Int)) := by omega
          have HC9 := Lib.hid (fun (n : Nat) => HCM.out j yy _ _ (w8.drewN n) (HN9.out n) hjl hl (by omega) (by omega))
          obtain ⟨CM, hCM⟩ : ∃ CM, CM = comeN (h) (wk) j yy := ⟨_, rfl⟩
          rw [← hCM] at HC9
          cases hc : CM.1 with
          | false =>
            rw [hc] at HC9
            have HV : Hid (R = (((iN l j).1, 10), CM.2)) := (show R = (((iN l j).1, 10), CM.2) by rw [hCM]; exact HV0.out.trans (jump_2 hbig HPJ.out (by rw [← hCM]; exact hc)))
            rw [hyy] at HC9
            clear hbig hc hCM
            go_wp2_with fail
            go_quiet (fail)
            go_wp2_with fail
            refine (HC9.out _).mono ?_
            rintro en w9 ⟨rfl, n9⟩
            have HNZ := Lib.hid n9
            have e7 := n9.cells.2.2.2.2.2.2.2.2.1
            have eat := n9.at_ HLV.out hjl
            rw [HLV.out] at e7
            clear n9
            go_wp2
            go_ret2
            exact HNZ.out.done HV.out
          | true =>
            rw [hc] at HC9
            have HV : Hid (R = ((0, 0), CM.2)) := (show R = ((0, 0), CM.2) by rw [hCM]; exact HV0.out.trans (jump_3 hbig HPJ.out (by rw [← hCM]; exact hc)))
            rw [hyy] at HC9
            clear hbig hc hCM
            go_wp2_with fail
            go_quiet (fail)
            go_wp2_with fail
            refine (HC9.out _).mono ?_
            rintro en w9 ⟨rfl, n9⟩
            have HNZ := Lib.hid n9
            clear n9
            go_wp2
            go_ret2
            exact HNZ.out.done HV.out
end
end Go.Proofs.Yteipnfnbepnpjaa

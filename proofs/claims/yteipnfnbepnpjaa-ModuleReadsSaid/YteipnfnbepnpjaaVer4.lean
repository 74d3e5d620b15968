/- verify's come. -/
import Derived.Test.YteipnfnbepnpjaaVer3
namespace Go.Proofs.Yteipnfnbepnpjaa
open Go.RowKit Go.Maps
set_option linter.unusedVariables false

section
variable {B pc fb mb N loc : Nat} {cv lv hv wv : Value} {l : List InsT} {h : List Int} {wk : List Nat} {w0 w w' : World}
theorem natC_snoc (l : List Nat) (k : Nat) : natC (l ++ [k]) = natC l ++ [.int .i64 (k : Nat)] := by simp [natC, intC]
theorem natC_len (l : List Nat) : (natC l).length = l.length := by simp [natC, intC]
/-- the blocks that turn -/
abbrev ckL (pc : Nat) (hv wv : Value) : List Nat := pc :: (hv.ownBlock.toList ++ wv.ownBlock.toList)
/-- what come leaves -/
def ComeDone (B pc fb mb N loc : Nat) (cv lv hv wv : Value) (l : List InsT) (h : List Int) (wk : List Nat) (w0 w w' : World) : Prop :=
  ∃ wv', CkS B pc fb mb N loc cv lv hv wv' l h wk w0 w' ∧ Keeps (ckL pc hv wv) w w' ∧ ∀ g, wv'.ownBlock = some g → wv.ownBlock = some g ∨ w.heap.size ≤ g
theorem CkS.put (c : CkS B pc fb mb N loc cv lv hv wv l h wk w0 w) {g off cap k : Nat} (hv1 : hv = .slice (some ⟨g, off, none⟩) h.length cap) (hk : k < h.length) (x : Int) :
    CkS B pc fb mb N loc cv lv hv wv l (h.set k x) wk w0 (w.setCell ⟨g, off + k, none⟩ (.int .i64 x)) ∧ Keeps (ckL pc hv wv) w (w.setCell ⟨g, off + k, none⟩ (.int .i64 x)) := by
  have hown : hv.ownBlock = some g := by rw [hv1]; rfl
  obtain ⟨n1, n2, n3, n4⟩ := c.n2 g hown
  have hk1 : Keeps [g] w (w.setCell ⟨g, off + k, none⟩ (.int .i64 x)) := (Keeps.refl _ w).setCell (.inl (by simp)) _
  have fl : fb < w.heap.size := World.block_lt_of_cell? w _ c.fun_
  refine ⟨⟨hk1.at c.blk (by simp; omega), (World.cell?_of_block (hk1.block fb fl (by simp; omega))).trans c.fun_, c.row.keeps hk1 (fun y hy hm => ?_), c.map.keeps hk1 (by simp; omega), ?_, c.wrow.keeps hk1 (fun y hy hm => ?_), c.n1, c.n2, c.n3, c.b1, below_keeps c.bel hk1 c.size (by simp; exact c.b1.2.1 g hown)⟩, hk1.mono (by intro y hy; cases List.mem_singleton.1 hy; simp [hown])⟩
  · cases List.mem_singleton.1 hm; exact n4 hy
  · have := c.hrow.set hv1 hk (.int .i64 x)
    rw [intC_set] at this
    rw [List.length_set]
    exact this
  · cases List.mem_singleton.1 hm; exact (c.n3 g hy).2.2.2.2 hown
/-- the row of what is to be done has turned -/
theorem CkS.queue (c : CkS B pc fb mb N loc cv lv hv wv l h wk w0 w) {w3 : World} {v2 : Value} {wk2 : List Nat} (hr : RowS w3 1 v2 wk2.length (natC wk2)) (hkk : Keeps wv.ownBlock.toList w w3) (hq : ∀ g, v2.ownBlock = some g → wv.ownBlock = some g ∨ w.heap.size ≤ g) :
    CkS B pc fb mb N loc cv lv hv v2 l h wk2 w0 (w3.setCell ⟨pc, 10, none⟩ v2) ∧ Keeps (ckL pc hv wv) w (w3.setCell ⟨pc, 10, none⟩ v2) ∧ ∀ g, v2.ownBlock = some g → wv.ownBlock = some g ∨ w.heap.size ≤ g := by
  have hlt := c.lt
  have fl : fb < w.heap.size := World.block_lt_of_cell? w _ c.fun_
  have ml := c.map.lt
  have far : ∀ y, y < w.heap.size → (∀ g, wv.ownBlock = some g → g ≠ y) → y ∉ wv.ownBlock.toList := by
    intro y _ h hm
    cases ho : wv.ownBlock with
    | none => rw [ho] at hm; simp at hm
    | some g => rw [ho] at hm; simp at hm; exact h g ho hm.symm
  have p1 : pc ∉ wv.ownBlock.toList := far pc hlt (fun g hg => (c.n3 g hg).1)
  have hk1 : Keeps (pc :: wv.ownBlock.toList) w w3 := hkk.mono (fun y hy => by simp [hy])
  have hk2 : Keeps (pc :: wv.ownBlock.toList) w (w3.setCell ⟨pc, 10, none⟩ v2) := hk1.setCell (.inl (by simp)) _
  have sz := c.size
  have n3' : ∀ g, v2.ownBlock = some g → g ≠ pc ∧ g ≠ fb ∧ g ≠ mb ∧ lv.ownBlock ≠ some g ∧ hv.ownBlock ≠ some g := by
    intro g hg
    rcases hq g hg with h1 | h1
    · exact c.n3 g h1
    · refine ⟨by omega, by omega, by omega, fun e => ?_, fun e => ?_⟩
      · have := c.row.lt g e; omega
      · have := c.hrow.lt g e; omega
  have no2 : ∀ g, hv.ownBlock = some g → g ∉ pc :: wv.ownBlock.toList := by
    intro g hg hm
    rw [List.mem_cons] at hm
    rcases hm with hm | hm
    · exact (c.n2 g hg).1 hm
    · exact far g (c.hrow.lt g hg) (fun g2 hg2 e => (c.n3 g2 hg2).2.2.2.2 (e ▸ hg)) hm
  refine ⟨⟨?_, (World.cell?_of_block (hk2.block fb fl ?_)).trans c.fun_, c.row.keeps hk2 (fun y hy hm => ?_), c.map.keeps hk2 ?_, c.hrow.keeps hk2 no2, ?_, c.n1, c.n2, n3', ⟨c.b1.1, c.b1.2.1, fun g hg => ?_⟩, below_keeps c.bel hk2 sz (fun y hy => ?_)⟩, hk2.mono (fun y hy => by simp at hy ⊢; rcases hy with hy | hy <;> simp [hy]), hq⟩
  · have := setCell_block (i := 10) (hkk.at c.blk p1) v2
    simpa using this
  · simp only [List.mem_cons, not_or]
    exact ⟨fun e => c.n1.1 e.symm, far fb fl (fun g hg => (c.n3 g hg).2.1)⟩
  · simp only [List.mem_cons] at hm
    rcases hm with hm | hm
    · exact c.n1.2.2 (hm ▸ hy)
    · exact far y (c.row.lt y hy) (fun g hg e => (c.n3 g hg).2.2.2.1 (e ▸ hy)) hm
  · simp only [List.mem_cons, not_or]
    exact ⟨fun e => c.n1.2.1 e.symm, far mb ml (fun g hg => (c.n3 g hg).2.2.1)⟩
  · refine hr.keeps (l := [pc]) ((Keeps.refl _ _).setCell (.inl (by simp)) _) fun g hg hm => ?_
    cases List.mem_singleton.1 hm
    exact (n3' pc hg).1 rfl
  · rcases hq g hg with h1 | h1
    · exact c.b1.2.2 g h1
    · omega
  · simp only [List.mem_cons] at hy
    rcases hy with rfl | hy
    · exact c.b1.1
    · cases ho : wv.ownBlock with
      | none => rw [ho] at hy; simp at hy
      | some g => rw [ho] at hy; simp at hy; subst hy; exact c.b1.2.2 _ ho
set_option maxRecDepth 100000 in
set_option maxHeartbeats 2000000 in
theorem come_any (k : Nat) (x : Int) (w : World) (c : CkS B pc fb mb N loc cv lv hv wv l h wk w0 w) (hk : k < h.length) (hl : h.length ≤ 1048576) (hwl : wk.length < 1048576) (hx : 0 ≤ x) :
    Calls Try.prog 65 #[.pointer (some ⟨pc, 0, none⟩), .int .i64 (k : Nat), .int .i64 x] w fun e w' => e = .returned (.bool (comeN h wk k x).1) ∧ ComeDone B pc fb mb N loc cv lv hv wv l (comeN h wk k x).2.1 (comeN h wk k x).2.2 w0 w w' := by
  obtain ⟨a, cap, hve, _, hcap, hnil, _⟩ := c.hrow.read
  subst hve
  obtain ⟨g, off, rfl, hgl, dk⟩ := row_cell c.hrow rfl hk
  have c9 : w.cell? ⟨pc, 9, none⟩ = some (.slice (some ⟨g, off, none⟩) h.length cap) := c.cell 9
  have c10 : w.cell? ⟨pc, 10, none⟩ = some wv := c.cell 10
  have f10 : w.frozen? ⟨pc, 10, none⟩ = false := free_of_block c.blk
  have fk : w.frozen? ⟨g, off + k, none⟩ = false := by
    rcases c.hrow.2 with ⟨e, _⟩ | ⟨g', off', cap', cur, e, he, hh, _⟩
    · cases e
    · cases he; exact free_of_block hh
  have hi0 : (0 : Int) ≤ (k : Int) := by omega
  have hi1 : (k : Int) < (h.length : Int) := by omega
  unfold maxLen at hcap
  have hpl := c.lt
  by_cases hneg : hN h k < 0
  · have HE : Hid (comeN h wk k x = (true, h.set k x, wk ++ [k])) := (show comeN h wk k x = (true, h.set k x, wk ++ [k]) by unfold comeN; rw [if_pos hneg])
    rw [HE.out]
    have d1 : decide (hg h k < 0) = true := decide_eq_true hneg
    obtain ⟨i0, hi, hz0, hz1, hz2⟩ := info_parts intInfo1
    have HI := Lib.hid hi
    have HZ0 := Lib.hid hz0
    have HZ1 := Lib.hid hz1
    have HZ2 := Lib.hid hz2
    have hne : ¬ pc = g := fun e => (c.n2 g rfl).1 e.symm
    have hne2 : ¬ g = pc := (c.n2 g rfl).1
    have hput := c.put rfl hk x
    have HP := Lib.hid hput
    have HNO : Hid (Src ((w.setCell ⟨g, off + k, none⟩ (.int .i64 x)).alloc (.cells #[.int .i64 (k : Nat)] 3)) (.slice (some ⟨w.heap.size, 0, none⟩) 1 1) 1 1 [.int .i64 (k : Nat)]) := (show _ by
      have := new_one (w.setCell ⟨g, off + k, none⟩ (.int .i64 x)) (.int .i64 (k : Nat)) 3
      rwa [show (w.setCell ⟨g, off + k, none⟩ (.int .i64 x)).heap.size = w.heap.size by simp [World.setCell]] at this)
    have HO1 : Hid (wk.length + 1 ≤ maxLen) := (show wk.length + 1 ≤ maxLen by unfold maxLen; omega)
    have HO2 : Hid ((wk.length + 1) * 8 ≤ 140737488355328) := (show (wk.length + 1) * 8 ≤ 140737488355328 by omega)
    have HW := Lib.hid (fun (ob : Obj) => (show RowS ((w.setCell ⟨g, off + k, none⟩ (.int .i64 x)).alloc ob) 1 wv wk.length (natC wk) from HP.out.1.wrow.keeps ((Keeps.refl [] _).alloc ob) fun _ _ => List.not_mem_nil))
    have e9 : (w.setCell ⟨g, off + k, none⟩ (.int .i64 x)).cell? ⟨pc, 9, none⟩ = some (.slice (some ⟨g, off, none⟩) h.length cap) := HP.out.1.cell 9
    have e10 : (w.setCell ⟨g, off + k, none⟩ (.int .i64 x)).cell? ⟨pc, 10, none⟩ = some wv := HP.out.1.cell 10
    have ef10 : (w.setCell ⟨g, off + k, none⟩ (.int .i64 x)).frozen? ⟨pc, 10, none⟩ = false := free_of_block HP.out.1.blk
    have hpl2 : pc < (w.setCell ⟨g, off + k, none⟩ (.int .i64 x)).heap.size := HP.out.1.lt
    have HF := Lib.hid (fun (w3 : World) (v2 : Value) (ob : Obj) (hr : RowS w3 1 v2 (wk.length + 1) (natC wk ++ [.int .i64 (k : Nat)])) (hg2 : ((w.setCell ⟨g, off + k, none⟩ (.int .i64 x)).alloc ob).grownBy w3 wv.ownBlock) (hv2 : v2.ownBlock = wv.ownBlock ∨ ∃ g2, v2.ownBlock = some g2 ∧ (w.setCell ⟨g, off + k, none⟩ (.int .i64 x)).heap.size + 1 ≤ g2) =>
      (show (w3.cell? ⟨pc, 9, none⟩ = some (.slice (some ⟨g, off, none⟩) h.length cap) ∧ w3.cell? ⟨pc, 10, none⟩ = some wv ∧ w3.frozen? ⟨pc, 10, none⟩ = false ∧ w3.cell? ⟨g, off + k, none⟩ = some (.int .i64 x)) ∧ ComeDone B pc fb mb N loc cv lv (.slice (some ⟨g, off, none⟩) h.length cap) wv l (h.set k x) (wk ++ [k]) w0 w (w3.setCell ⟨pc, 10, none⟩ v2) by
        obtain ⟨P1, P2⟩ := HP.out
        have hkk : Keeps wv.ownBlock.toList (w.setCell ⟨g, off + k, none⟩ (.int .i64 x)) w3 := ((Keeps.refl _ _).alloc ob).trans (Keeps.of_row hg2 (by intro g hg'; rw [hg']; simp))
        have hq : ∀ g2, v2.ownBlock = some g2 → wv.ownBlock = some g2 ∨ (w.setCell ⟨g, off + k, none⟩ (.int .i64 x)).heap.size ≤ g2 := by
          intro g2 hg'
          rcases hv2 with hv2 | ⟨g3, hv2, hge⟩
          · exact .inl (hv2 ▸ hg')
          · rw [hv2] at hg'; cases hg'; exact .inr (by omega)
        have hpw : pc ∉ wv.ownBlock.toList := by
          intro hm
          cases ho : wv.ownBlock with
          | none => rw [ho] at hm; simp at hm
          | some g2 => rw [ho] at hm; simp at hm; exact (c.n3 g2 ho).1 hm.symm
        have hgw : g ∉ wv.ownBlock.toList := by
          intro hm
          cases ho : wv.ownBlock with
          | none => rw [ho] at hm; simp at hm
          | some g2 => rw [ho] at hm; simp at hm; exact (c.n3 g2 ho).2.2.2.2 (by rw [hm]; rfl)
        have hbp := hkk.block pc hpl2 hpw
        have hbg := hkk.block g (by simpa [World.setCell] using hgl) hgw
        obtain ⟨Q1, Q2, Q3⟩ := P1.queue (wk2 := wk ++ [k]) (by rw [natC_snoc, List.length_append]; exact hr) hkk hq
        refine ⟨⟨(World.cell?_of_block hbp).trans e9, (World.cell?_of_block hbp).trans e10, (World.frozen?_of_block hbp).trans ef10, (World.cell?_of_block hbg).trans ?_⟩, ⟨v2, Q1, P2.trans Q2, fun g2 hg' => ?_⟩⟩
        · obtain ⟨g', off', e', _, hc'⟩ := row_cell (k := k) (n := h.length) (S := h.set k x) (a := some ⟨g, off, none⟩) (cap := cap) (w := w.setCell ⟨g, off + k, none⟩ (.int .i64 x)) (by have := P1.hrow; rw [List.length_set] at this; exact this) (by rw [List.length_set]) hk
          cases e'
          rw [hc']
          unfold hg
          rw [List.getElem?_set_self hk]
          rfl
        · rcases Q3 g2 hg' with q | q
          · exact .inl q
          · exact .inr (by simpa [World.setCell] using q)))
    generalize hN h k = z at hneg
    clear hput hi hz0 hz1 hz2 c hnil
    go_enter Try.func65, Try.ntmps65
    go_wp2_with (at_builtin; refine wpList_row (by rfl) (.tmp 26) (.tmp 28) 59 rfl 3 i0 (.int .i64 0) 1 8 Try.underlying59 HI.out HZ0.out HZ1.out HZ2.out rfl (by decide) wv wk.length (natC wk) rfl (HW.out _) (.slice (some ⟨w.heap.size, 0, none⟩) 1 1) 1 [.int .i64 (k : Nat)] rfl HNO.out (one_of rfl) HO1.out HO2.out ?_)
    intro v2 w3 hr2 hg2 hv2
    obtain ⟨⟨q1, q2, q3, q4⟩, q5⟩ := HF.out w3 v2 _ hr2 hg2 (by simpa [World.setCell] using hv2)
    obtain ⟨a2, cap2, rfl, _⟩ := hr2.read
    have HQ := Lib.hid q5
    clear hr2 hg2 hv2 q5
    go_wp2
    go_ret
    exact ⟨rfl, HQ.out⟩
  · have hnn : ¬ (hg h k < 0) := hneg
    have HQ : Hid (ComeDone B pc fb mb N loc cv lv (.slice (some ⟨g, off, none⟩) h.length cap) wv l h wk w0 w w) := (show _ from ⟨wv, c, Keeps.refl _ _, fun g hg => .inl hg⟩)
    have HE : Hid (comeN h wk k x = (decide (hg h k = x), h, wk)) := (show comeN h wk k x = (decide (hg h k = x), h, wk) by unfold comeN; rw [if_neg hneg]; rfl)
    rw [HE.out]
    generalize hg h k = z at dk hnn
    clear c hneg HE hnil
    go_enter Try.func65, Try.ntmps65
    go_wp2
    go_ret
    exact ⟨ret_bool2 (by rw [Bool.eq_iff_iff]; simp), HQ.out⟩
end
end Go.Proofs.Yteipnfnbepnpjaa

/- The arena in memory: its parts lie apart (own says whose each block of memory is), and what a change of one part leaves of the others. -/
import Derived.Test.YtfiddodlpppdhaaArMath
import Derived.Test.YtfiddodlpppdhaaArDown
import Derived.Test.YtfiddodlpppdhaaLineFlush
namespace Go.Proofs.Ytfiddodlpppdhaa
open Go.RowKit Go.Maps
set_option linter.unusedVariables false
/-- where the arena's parts lie -/
structure ArIds where
  gw : Nat
  pt : Nat
  s : Nat
  g : Nat
  m : Nat
  pl : Nat
  q : Option Nat
  mb : Nat
  rv : Nat → Value
  blk : Nat → Nat
def arCells (I : ArIds) (A : Ar) : Array Value := #[.slice (some ⟨I.gw, 0, none⟩) (64 * A.N) (64 * A.N), .pointer (some ⟨I.pt, 0, none⟩), .pointer (some ⟨I.pl, 0, none⟩), .map (some I.mb), I.rv 0, I.rv 1, I.rv 2, I.rv 3, I.rv 4, .int .i64 (A.bad : Nat)]
def blkCells (b : BlkT) : Array Value := #[.int .i64 (b.size : Nat), .int .i64 (b.asked : Nat), .int .i64 (b.st : Nat)]
/-- the map of blocks, as a function -/
def mapP (B : Nat → Option BlkT) (blk : Nat → Nat) : Int → Option Value := fun x => if 0 ≤ x then (B x.toNat).map (fun _ => .pointer (some ⟨blk x.toNat, 0, none⟩)) else none
/-- a row of the arena: a heap, each once, those that are free of a place -/
def RowF (w : World) (v : Value) (F : Nat → Bool) : Prop := ∃ l : List Int, RowS w 1 v l.length (intC l) ∧ HeapN l l.length ∧ l.Nodup ∧ ∀ x : Int, x ∈ l ↔ ∃ k : Nat, x = (k : Int) ∧ F k = true
structure ArAt (w : World) (pa : Nat) (I : ArIds) (own : Nat → Nat) (K : Nat) (A : Ar) : Prop where
  head : w.heap[pa]? = some (.cells (arCells I A) 57 (0, 0))
  words : ∃ cs, w.heap[I.gw]? = some (.cells cs 38 (0, 0)) ∧ cs.size = 64 * A.N ∧ ∀ i, i < 64 * A.N → cs[i]? = some (.int .u64 (A.wd i))
  wwf : ∀ i, (Lit.int .u64 (A.wd i)).wf = true
  tab : PagesAt w I.pt I.s I.g I.m A.N K A.T
  line : LineAt w I.pl I.q A.bud A.L
  map : MapAt Try.prog w 3 I.mb K (mapP A.B I.blk)
  blks : ∀ x b, A.B x = some b → w.heap[I.blk x]? = some (.cells (blkCells b) 63 (0, 0))
  row : ∀ c, c < 5 → RowF w (I.rv c) (A.F c)
  tpa : own pa = 1
  tgw : own I.gw = 2
  ttab : own I.pt = 3 ∧ own I.s = 3 ∧ own I.g = 3 ∧ own I.m = 3
  tline : own I.pl = 4 ∧ ∀ g, I.q = some g → own g = 4
  tmap : own I.mb = 5
  trow : ∀ c, c < 5 → ∀ g, (I.rv c).ownBlock = some g → own g = 6 + c
  tblk : ∀ x b, A.B x = some b → own (I.blk x) = 11 + x
/-- whose new blocks are -/
def newOwn (own : Nat → Nat) (w : World) (t : Nat) : Nat → Nat := fun g => if g < w.heap.size then own g else t
theorem newOwn_old {own : Nat → Nat} {w : World} {t g : Nat} (h : g < w.heap.size) : newOwn own w t g = own g := if_pos h
theorem newOwn_new {own : Nat → Nat} {w : World} {t g : Nat} (h : w.heap.size ≤ g) : newOwn own w t g = t := if_neg (by omega)
theorem keeps_set (w : World) (g i : Nat) (u : Value) : Keeps [g] w (w.setCell ⟨g, i, none⟩ u) := (Keeps.refl [g] w).setCell (p := ⟨g, i, none⟩) (.inl (by simp)) u
section
variable {w w' : World} {pa K : Nat} {I : ArIds} {own : Nat → Nat} {A : Ar} {L : List Nat}
theorem ArAt.lt_pa (h : ArAt w pa I own K A) : pa < w.heap.size := (Array.getElem?_eq_some_iff.1 h.head).1
theorem ArAt.lt_gw (h : ArAt w pa I own K A) : I.gw < w.heap.size := by obtain ⟨cs, h1, _⟩ := h.words; exact (Array.getElem?_eq_some_iff.1 h1).1
theorem ArAt.lt_blk (h : ArAt w pa I own K A) {x : Nat} {b : BlkT} (hb : A.B x = some b) : I.blk x < w.heap.size := (Array.getElem?_eq_some_iff.1 (h.blks x b hb)).1
theorem RowF.lt {v : Value} {F : Nat → Bool} (h : RowF w v F) : ∀ g, v.ownBlock = some g → g < w.heap.size := by obtain ⟨l, h1, _⟩ := h; exact h1.lt
theorem RowF.keeps {v : Value} {F : Nat → Bool} (h : RowF w v F) (k : Keeps L w w') (hn : ∀ g, v.ownBlock = some g → g ∉ L) : RowF w' v F := by obtain ⟨l, h1, h2⟩ := h; exact ⟨l, h1.keeps k hn, h2⟩
/-- the parts of the arena whose blocks are not of the tag t stand as they stood -/
structure ArRest (w' : World) (pa : Nat) (I : ArIds) (K : Nat) (A : Ar) (P : Nat → Prop) : Prop where
  head : P 1 → w'.heap[pa]? = some (.cells (arCells I A) 57 (0, 0))
  words : P 2 → ∃ cs, w'.heap[I.gw]? = some (.cells cs 38 (0, 0)) ∧ cs.size = 64 * A.N ∧ ∀ i, i < 64 * A.N → cs[i]? = some (.int .u64 (A.wd i))
  tab : P 3 → PagesAt w' I.pt I.s I.g I.m A.N K A.T
  line : P 4 → LineAt w' I.pl I.q A.bud A.L
  map : P 5 → MapAt Try.prog w' 3 I.mb K (mapP A.B I.blk)
  blks : ∀ x b, A.B x = some b → P (11 + x) → w'.heap[I.blk x]? = some (.cells (blkCells b) 63 (0, 0))
  row : ∀ c, c < 5 → P (6 + c) → RowF w' (I.rv c) (A.F c)
/-- a change of blocks that are not of the tags P, or new -/
theorem ArAt.rest (h : ArAt w pa I own K A) (k : Keeps L w w') (P : Nat → Prop) (hL : ∀ x ∈ L, w.heap.size ≤ x ∨ ¬ P (own x)) : ArRest w' pa I K A P := by
  have out : ∀ g t, g < w.heap.size → own g = t → P t → g ∉ L := fun g t hlt ht hP hm => by
    rcases hL g hm with h1 | h1
    · omega
    · rw [ht] at h1; exact h1 hP
  refine ⟨fun p => k.at h.head (out _ _ h.lt_pa h.tpa p), fun p => ?_, fun p => ?_, fun p => ?_, fun p => h.map.keeps k (out _ _ h.map.lt h.tmap p), fun x b hb p => k.at (h.blks x b hb) (out _ _ (h.lt_blk hb) (h.tblk x b hb) p), fun c hc p => (h.row c hc).keeps k fun g hg => out _ _ ((h.row c hc).lt g hg) (h.trow c hc g hg) p⟩
  · obtain ⟨cs, h1, h2⟩ := h.words
    exact ⟨cs, k.at h1 (out _ _ h.lt_gw h.tgw p), h2⟩
  · obtain ⟨l1, l2, l3, l4⟩ := h.tab.lt
    obtain ⟨t1, t2, t3, t4⟩ := h.ttab
    exact h.tab.keeps k (out _ _ l1 t1 p) (out _ _ l2 t2 p) (out _ _ l3 t3 p) (out _ _ l4 t4 p)
  · obtain ⟨l1, l2⟩ := h.line.lt
    exact h.line.keeps k (out _ _ l1 h.tline.1 p) fun g hg => out _ _ (l2 g hg) (h.tline.2 g hg) p
/-- nothing of the arena turned -/
theorem ArAt.same (h : ArAt w pa I own K A) (k : Keeps L w w') (hL : ∀ x ∈ L, w.heap.size ≤ x) : ArAt w' pa I own K A := by
  have r := h.rest k (fun _ => True) (fun x hx => .inl (hL x hx))
  exact ⟨r.head trivial, r.words trivial, h.wwf, r.tab trivial, r.line trivial, r.map trivial, fun x b hb => r.blks x b hb trivial, fun c hc => r.row c hc trivial, h.tpa, h.tgw, h.ttab, h.tline, h.tmap, h.trow, h.tblk⟩
theorem ArAt.below (h : ArAt w pa I own K A) (hb : Below w.heap.size w w') : ArAt w' pa I own K A :=
  h.same (Keeps.of_below hb (Nat.le_refl _) []) (fun x hx => absurd hx List.not_mem_nil)
theorem ArAt.mono (h : ArAt w pa I own K A) {K' : Nat} (hK : K ≤ K') : ArAt w pa I own K' A :=
  ⟨h.head, h.words, h.wwf, h.tab.mono hK, h.line, h.map.mono hK, h.blks, h.row, h.tpa, h.tgw, h.ttab, h.tline, h.tmap, h.trow, h.tblk⟩
/-- a word written -/
theorem ArAt.setWd (h : ArAt w pa I own K A) (j : Nat) (u : Int) (hu : (Lit.int .u64 u).wf = true) : ArAt (w.setCell ⟨I.gw, j, none⟩ (.int .u64 u)) pa I own K { A with wd := fun i => if i = j then u else A.wd i } := by
  have r := h.rest (keeps_set w I.gw j (.int .u64 u)) (fun t => t ≠ 2) (fun x hx => .inr (by simp at hx; subst hx; simp [h.tgw]))
  refine ⟨r.head (by decide), ?_, fun i => ?_, r.tab (by decide), r.line (by decide), r.map (by decide), fun x b hb => r.blks x b hb (by omega), fun c hc => r.row c hc (by omega), h.tpa, h.tgw, h.ttab, h.tline, h.tmap, h.trow, h.tblk⟩
  · obtain ⟨cs, h1, h2, h3⟩ := h.words
    refine ⟨_, setCell_block h1 _, by simpa using h2, fun i hi => ?_⟩
    have hi : i < 64 * A.N := hi
    rw [Array.getElem?_setIfInBounds]
    by_cases hij : j = i
    · subst hij
      rw [if_pos rfl, if_pos (by omega)]; simp
    · rw [if_neg hij, h3 i hi]
      have : ¬ i = j := fun e => hij e.symm
      simp [this]
  · dsimp only
    split
    · exact hu
    · exact h.wwf i
/-- a block's cells turned -/
theorem ArAt.setBlk (h : ArAt w pa I own K A) {x : Nat} {b b' : BlkT} (hb : A.B x = some b) {i : Nat} {u : Value} (hu : (blkCells b).setIfInBounds i u = blkCells b') : ArAt (w.setCell ⟨I.blk x, i, none⟩ u) pa I own K { A with B := updO A.B x (some b') } := by
  have r := h.rest (keeps_set w (I.blk x) i u) (fun t => t ≠ 11 + x) (fun y hy => .inr (by simp at hy; subst hy; simp [h.tblk x b hb]))
  refine ⟨r.head (by omega), r.words (by omega), h.wwf, r.tab (by omega), r.line (by omega), ?_, fun y c hc => ?_, fun c hc => r.row c hc (by omega), h.tpa, h.tgw, h.ttab, h.tline, h.tmap, h.trow, fun y c hc => ?_⟩
  · refine (r.map (by omega)).congr fun y _ => ?_
    unfold mapP updO
    split
    · by_cases hy : y.toNat = x
      · simp [hy, hb]
      · simp [hy]
    · rfl
  · unfold updO at hc
    dsimp only at hc
    split at hc
    · next e =>
      subst e
      cases hc
      have := setCell_block (i := i) (h.blks y b hb) u
      rw [hu] at this
      exact this
    · next e => exact r.blks y c hc (by omega)
  · unfold updO at hc
    dsimp only at hc
    split at hc
    · next e => subst e; exact h.tblk y b hb
    · exact h.tblk y c hc
/-- one block more is bad -/
theorem ArAt.setBad (h : ArAt w pa I own K A) (n : Nat) : ArAt (w.setCell ⟨pa, 9, none⟩ (.int .i64 (n : Nat))) pa I own K { A with bad := n } := by
  have r := h.rest (keeps_set w pa 9 (.int .i64 (n : Nat))) (fun t => t ≠ 1) (fun y hy => .inr (by simp at hy; subst hy; simp [h.tpa]))
  refine ⟨?_, r.words (by decide), h.wwf, r.tab (by decide), r.line (by decide), r.map (by decide), fun x b hb => r.blks x b hb (by omega), fun c hc => r.row c hc (by omega), h.tpa, h.tgw, h.ttab, h.tline, h.tmap, h.trow, h.tblk⟩
  exact setCell_block (i := 9) h.head (.int .i64 (n : Nat))
theorem arCells_row (I : ArIds) (A : Ar) {c : Nat} (hc : c < 5) : (arCells I A)[4 + c]? = some (I.rv c) := by
  rcases (by omega : c = 0 ∨ c = 1 ∨ c = 2 ∨ c = 3 ∨ c = 4) with rfl | rfl | rfl | rfl | rfl <;> rfl
theorem arCells_set (I : ArIds) (A A' : Ar) {c : Nat} (hc : c < 5) (v : Value) (hN : A'.N = A.N) (hb : A'.bad = A.bad) : (arCells I A).setIfInBounds (4 + c) v = arCells { I with rv := fun d => if d = c then v else I.rv d } A' := by
  unfold arCells
  rw [hN, hb]
  rcases (by omega : c = 0 ∨ c = 1 ∨ c = 2 ∨ c = 3 ∨ c = 4) with rfl | rfl | rfl | rfl | rfl <;> rfl
theorem ArAt.rowAt (h : ArAt w pa I own K A) {c : Nat} (hc : c < 5) : ∃ l : List Int, RowAt w pa (4 + c) 57 (arCells I A) (I.rv c).ownBlock l ∧ HeapN l l.length ∧ l.Nodup ∧ ∀ x : Int, x ∈ l ↔ ∃ k : Nat, x = (k : Int) ∧ A.F c k = true := by
  obtain ⟨l, h1, h2, h3, h4⟩ := h.row c hc
  refine ⟨l, ⟨h.head, ⟨_, arCells_row I A hc, rfl, h1⟩, fun e => ?_⟩, h2, h3, h4⟩
  have := h.trow c hc pa e
  have := h.tpa
  omega
/-- a row turned -/
theorem ArAt.turnRow (h : ArAt w pa I own K A) {c : Nat} (hc : c < 5) {v : Value} {q' : Option Nat} {l' : List Int} (hr : RowAt w' pa (4 + c) 57 ((arCells I A).setIfInBounds (4 + c) v) q' l')
    (hq : ∀ g, q' = some g → (I.rv c).ownBlock = some g ∨ w.heap.size ≤ g) (hk : Keeps (pa :: (I.rv c).ownBlock.toList) w w') (hh : HeapN l' l'.length) (hn : l'.Nodup) (F' : Nat → Bool) (hm : ∀ x : Int, x ∈ l' ↔ ∃ k : Nat, x = (k : Int) ∧ F' k = true) :
    ArAt w' pa { I with rv := fun d => if d = c then v else I.rv d } (newOwn own w (6 + c)) K { A with F := fun d x => if d = c then F' x else A.F d x } := by
  have r := h.rest hk (fun t => t ≠ 1 ∧ t ≠ 6 + c) (fun y hy => .inr (by
    rcases List.mem_cons.1 hy with rfl | hy
    · rw [h.tpa]; omega
    · rw [h.trow c hc y (by simpa using hy)]; omega))
  obtain ⟨v0, e1, e2, e3⟩ := hr.row
  have hsz : 4 + c < (arCells I A).size := by show 4 + c < 10; omega
  rw [Array.getElem?_setIfInBounds, if_pos rfl, if_pos hsz] at e1
  cases e1
  obtain ⟨l1, l2, l3, l4⟩ := h.tab.lt
  obtain ⟨k1, k2⟩ := h.line.lt
  refine ⟨?_, r.words (by omega), h.wwf, r.tab (by omega), r.line (by omega), r.map (by omega), fun x b hb => r.blks x b hb (by omega), fun d hd => ?_, ?_, ?_, ?_, ?_, ?_, fun d hd g hg => ?_, fun x b hb => ?_⟩
  · have := hr.at_
    rw [arCells_set I A { A with F := fun d x => if d = c then F' x else A.F d x } hc v rfl rfl] at this
    exact this
  · by_cases hdc : d = c
    · subst hdc; simp only [if_true]; exact ⟨l', e3, hh, hn, hm⟩
    · simp only [hdc, if_false]; exact r.row d hd (by omega)
  · rw [newOwn_old h.lt_pa]; exact h.tpa
  · exact (newOwn_old h.lt_gw).trans h.tgw
  · obtain ⟨t1, t2, t3, t4⟩ := h.ttab
    exact ⟨(newOwn_old l1).trans t1, (newOwn_old l2).trans t2, (newOwn_old l3).trans t3, (newOwn_old l4).trans t4⟩
  · exact ⟨(newOwn_old k1).trans h.tline.1, fun g hg => (newOwn_old (k2 g hg)).trans (h.tline.2 g hg)⟩
  · exact (newOwn_old h.map.lt).trans h.tmap
  · by_cases hdc : d = c
    · subst hdc
      simp only [if_true] at hg
      rw [e2] at hg
      rcases hq g hg with h1 | h1
      · exact (newOwn_old ((h.row d hd).lt g h1)).trans (h.trow d hd g h1)
      · exact newOwn_new h1
    · simp only [hdc, if_false] at hg
      exact (newOwn_old ((h.row d hd).lt g hg)).trans (h.trow d hd g hg)
  · exact (newOwn_old (h.lt_blk hb)).trans (h.tblk x b hb)
/-- the table turned -/
theorem ArAt.turnTab (h : ArAt w pa I own K A) {K' : Nat} {T' : Nat → Option RunT} (hK : K ≤ K') (ht : PagesAt w' I.pt I.s I.g I.m A.N K' T') (hk : Keeps [I.g, I.m] w w') : ArAt w' pa I own K' { A with T := T' } := by
  have r := h.rest hk (fun t => t ≠ 3) (fun y hy => .inr (by
    obtain ⟨_, _, t3, t4⟩ := h.ttab
    simp at hy
    rcases hy with rfl | rfl
    · rw [t3]; simp
    · rw [t4]; simp))
  exact ⟨r.head (by decide), r.words (by decide), h.wwf, ht, r.line (by decide), (r.map (by decide)).mono hK, fun x b hb => r.blks x b hb (by omega), fun c hc => r.row c hc (by omega), h.tpa, h.tgw, h.ttab, h.tline, h.tmap, h.trow, h.tblk⟩
/-- the line turned -/
theorem ArAt.turnLine (h : ArAt w pa I own K A) {q' : Option Nat} {L' : List (Int × Nat)} (hl : LineAt w' I.pl q' A.bud L') (hq : ∀ g, q' = some g → I.q = some g ∨ w.heap.size ≤ g) (hk : Keeps (I.pl :: I.q.toList) w w') :
    ArAt w' pa { I with q := q' } (newOwn own w 4) K { A with L := L' } := by
  have r := h.rest hk (fun t => t ≠ 4) (fun y hy => .inr (by
    rcases List.mem_cons.1 hy with rfl | hy
    · rw [h.tline.1]; simp
    · rw [h.tline.2 y (by simpa using hy)]; simp))
  obtain ⟨l1, l2, l3, l4⟩ := h.tab.lt
  obtain ⟨k1, k2⟩ := h.line.lt
  refine ⟨r.head (by decide), r.words (by decide), h.wwf, r.tab (by decide), hl, r.map (by decide), fun x b hb => r.blks x b hb (by omega), fun c hc => r.row c hc (by omega), (newOwn_old h.lt_pa).trans h.tpa, (newOwn_old h.lt_gw).trans h.tgw, ?_, ⟨(newOwn_old k1).trans h.tline.1, fun g hg => ?_⟩, (newOwn_old h.map.lt).trans h.tmap, fun c hc g hg => (newOwn_old ((h.row c hc).lt g hg)).trans (h.trow c hc g hg), fun x b hb => (newOwn_old (h.lt_blk hb)).trans (h.tblk x b hb)⟩
  · obtain ⟨t1, t2, t3, t4⟩ := h.ttab
    exact ⟨(newOwn_old l1).trans t1, (newOwn_old l2).trans t2, (newOwn_old l3).trans t3, (newOwn_old l4).trans t4⟩
  · rcases hq g hg with h1 | h1
    · exact (newOwn_old (k2 g h1)).trans (h.tline.2 g h1)
    · exact newOwn_new h1
theorem mapP_upd (B : Nat → Option BlkT) (blk : Nat → Nat) (x gb : Nat) (b : BlkT) : (fun y : Int => if y = (x : Int) then some (Value.pointer (some ⟨gb, 0, none⟩)) else mapP B blk y) = mapP (updO B x (some b)) (fun y => if y = x then gb else blk y) := by
  funext y
  unfold mapP updO
  by_cases hy : y = (x : Int)
  · subst hy
    rw [if_pos rfl, if_pos (by omega)]
    simp
  · rw [if_neg hy]
    by_cases h0 : 0 ≤ y
    · have hn : ¬ y.toNat = x := by omega
      rw [if_pos h0, if_pos h0, if_neg hn]
      simp [hn]
    · rw [if_neg h0, if_neg h0]
theorem mapP_del (B : Nat → Option BlkT) (blk : Nat → Nat) (x : Nat) : (fun y : Int => if y = (x : Int) then none else mapP B blk y) = mapP (updO B x none) blk := by
  funext y
  unfold mapP updO
  by_cases hy : y = (x : Int)
  · subst hy
    rw [if_pos rfl, if_pos (by omega)]
    simp
  · rw [if_neg hy]
    by_cases h0 : 0 ≤ y
    · have hn : ¬ y.toNat = x := by omega
      rw [if_pos h0, if_pos h0, if_neg hn]
    · rw [if_neg h0, if_neg h0]
/-- a block that was made, laid into the map -/
theorem ArAt.newBlk (h : ArAt w pa I own K A) {x gb : Nat} {b : BlkT} {n' : Nat} (hgb : w.heap.size ≤ gb) (hB : w'.heap[gb]? = some (.cells (blkCells b) 63 (0, 0)))
    (hm : MapAt Try.prog w' 3 I.mb n' (fun y => if y = (x : Int) then some (.pointer (some ⟨gb, 0, none⟩)) else mapP A.B I.blk y)) (hn : K ≤ n') (hk : Keeps [I.mb] w w') :
    ArAt w' pa { I with blk := fun y => if y = x then gb else I.blk y } (newOwn own w (11 + x)) n' { A with B := updO A.B x (some b) } := by
  have r := h.rest hk (fun t => t ≠ 5) (fun y hy => .inr (by simp at hy; subst hy; rw [h.tmap]; simp))
  obtain ⟨l1, l2, l3, l4⟩ := h.tab.lt
  obtain ⟨k1, k2⟩ := h.line.lt
  refine ⟨r.head (by decide), r.words (by decide), h.wwf, (r.tab (by decide)).mono hn, r.line (by decide), ?_, fun y c hc => ?_, fun c hc => r.row c hc (by omega), (newOwn_old h.lt_pa).trans h.tpa, (newOwn_old h.lt_gw).trans h.tgw, ?_, ⟨(newOwn_old k1).trans h.tline.1, fun g hg => (newOwn_old (k2 g hg)).trans (h.tline.2 g hg)⟩, (newOwn_old h.map.lt).trans h.tmap, fun c hc g hg => (newOwn_old ((h.row c hc).lt g hg)).trans (h.trow c hc g hg), fun y c hc => ?_⟩
  · rw [mapP_upd A.B I.blk x gb b] at hm; exact hm
  · unfold updO at hc
    dsimp only at hc ⊢
    by_cases hy : y = x
    · rw [if_pos hy] at hc ⊢
      cases hc
      exact hB
    · rw [if_neg hy] at hc ⊢
      exact r.blks y c hc (by omega)
  · obtain ⟨t1, t2, t3, t4⟩ := h.ttab
    exact ⟨(newOwn_old l1).trans t1, (newOwn_old l2).trans t2, (newOwn_old l3).trans t3, (newOwn_old l4).trans t4⟩
  · unfold updO at hc
    dsimp only at hc ⊢
    by_cases hy : y = x
    · rw [if_pos hy, hy]; exact newOwn_new hgb
    · rw [if_neg hy] at hc ⊢
      exact (newOwn_old (h.lt_blk hc)).trans (h.tblk y c hc)
/-- a block deleted -/
theorem ArAt.delBlk (h : ArAt w pa I own K A) {x : Nat} (hm : MapAt Try.prog w' 3 I.mb K (fun y => if y = (x : Int) then none else mapP A.B I.blk y)) (hk : Keeps [I.mb] w w') :
    ArAt w' pa I own K { A with B := updO A.B x none } := by
  have r := h.rest hk (fun t => t ≠ 5) (fun y hy => .inr (by simp at hy; subst hy; rw [h.tmap]; simp))
  refine ⟨r.head (by decide), r.words (by decide), h.wwf, r.tab (by decide), r.line (by decide), ?_, fun y c hc => ?_, fun c hc => r.row c hc (by omega), h.tpa, h.tgw, h.ttab, h.tline, h.tmap, h.trow, fun y c hc => ?_⟩
  · rw [mapP_del] at hm; exact hm
  · unfold updO at hc
    dsimp only at hc
    split at hc
    · cases hc
    · exact r.blks y c hc (by omega)
  · unfold updO at hc
    dsimp only at hc
    split at hc
    · cases hc
    · exact h.tblk y c hc
end
end Go.Proofs.Ytfiddodlpppdhaa

/- for the law AuditFinds: objects that the law itself makes; plain facts on them. -/
import Derived.Test.YtogifanooleppaaAuditAllWalk
namespace Go.Proofs.Ytogifanooleppaa
open Go.RowKit Go.Maps
set_option linter.unusedVariables false

/-! ### the objects that the law makes -/
def lg (l : List ObjV) (i : Nat) : ObjV := l[i]?.getD zeroO
theorem lg_some {l : List ObjV} {i : Nat} (h : i < l.length) : l[i]? = some (lg l i) := by unfold lg; rw [List.getElem?_eq_getElem h]; rfl
def objI (l : List ObjV) (c : Int) (i : Nat) : ObjV := ⟨(i : Int), 0, c, false, (lg l i).ra, (lg l i).rl, (lg l i).rc, (lg l i).refs⟩
def objL (l : List ObjV) (cf : Nat → Int) (n : Nat) : List ObjV := (List.range n).map fun i => objI l (cf i) i
section
variable {l : List ObjV} {cf cf' : Nat → Int} {n : Nat}
theorem objL_len : (objL l cf n).length = n := by simp [objL]
theorem objL_at {i : Nat} (h : i < n) : (objL l cf n)[i]? = some (objI l (cf i) i) := by simp [objL, h]
theorem objL_mem {o : ObjV} : o ∈ objL l cf n ↔ ∃ i, i < n ∧ o = objI l (cf i) i := by
  unfold objL
  rw [List.mem_map]
  constructor
  · rintro ⟨i, hi, rfl⟩; exact ⟨i, List.mem_range.1 hi, rfl⟩
  · rintro ⟨i, hi, rfl⟩; exact ⟨i, List.mem_range.2 hi, rfl⟩
theorem objL_succ : objL l cf (n + 1) = objL l cf n ++ [objI l (cf n) n] := by simp [objL, List.range_succ]
theorem objL_congr (h : ∀ i, i < n → cf i = cf' i) : objL l cf n = objL l cf' n := by
  unfold objL
  exact List.map_congr_left fun i hi => by rw [h i (List.mem_range.1 hi)]
theorem firstO_objL {i : Nat} (h : i < n) : firstO (objL l cf n) (i : Int) = some (objI l (cf i) i) := by
  cases hf : firstO (objL l cf n) (i : Int) with
  | none => exact absurd rfl (firstO_none hf _ (objL_mem.2 ⟨i, h, rfl⟩))
  | some o =>
    obtain ⟨h1, h2⟩ := firstO_some hf
    obtain ⟨j, hj, rfl⟩ := objL_mem.1 h1
    have : j = i := by have : ((j : Nat) : Int) = (i : Int) := h2; omega
    rw [this]
theorem firstO_objL_none {x : Int} (h : ∀ i : Nat, i < n → (i : Int) ≠ x) : firstO (objL l cf n) x = none := by
  cases hf : firstO (objL l cf n) x with
  | none => rfl
  | some o =>
    obtain ⟨h1, h2⟩ := firstO_some hf
    obtain ⟨j, hj, rfl⟩ := objL_mem.1 h1
    exact absurd h2 (h j hj)
theorem countR_objL (x : Int) : ∀ n, countR (objL l cf n) x = countR (objL l cf' n) x := by
  intro n
  induction n with
  | zero => rfl
  | succ n ih => rw [objL_succ, objL_succ, countR_app, countR_app, ih]; rfl
theorem refsN_objL : ∀ n, refsN (objL l cf n) = refsN (objL l cf' n) := by
  intro n
  induction n with
  | zero => rfl
  | succ n ih => rw [objL_succ, objL_succ, refsN_app, refsN_app, ih]; rfl
end
/-- how often number i is referred to -/
def cntI (l : List ObjV) (n i : Nat) : Nat := countR (objL l (fun _ => 0) n) (i : Int)
/-- who is referred to by none -/
def zerosL (l : List ObjV) (n : Nat) : Nat → List Int
  | 0 => []
  | k + 1 => zerosL l n k ++ (if cntI l n k = 0 then [(k : Int)] else [])
theorem zerosL_mem {l : List ObjV} {n : Nat} {x : Int} : ∀ k, x ∈ zerosL l n k ↔ ∃ i : Nat, i < k ∧ x = i ∧ cntI l n i = 0 := by
  intro k
  induction k with
  | zero => simp [zerosL]
  | succ k ih =>
    rw [zerosL, List.mem_append, ih]
    constructor
    · rintro (⟨i, h1, h2, h3⟩ | h)
      · exact ⟨i, by omega, h2, h3⟩
      · split at h
        · rename_i hc
          simp at h
          exact ⟨k, by omega, h, hc⟩
        · cases h
    · rintro ⟨i, h1, h2, h3⟩
      by_cases e : i = k
      · subst e
        exact .inr (by rw [if_pos h3, h2]; simp)
      · exact .inl ⟨i, by omega, h2, h3⟩
theorem zerosL_len (l : List ObjV) (n k : Nat) : (zerosL l n k).length ≤ k := by
  induction k with
  | zero => simp [zerosL]
  | succ k ih => rw [zerosL, List.length_append]; split <;> simp <;> omega
/-- where all counts are right, but one by some -/
theorem wrong_objL {l : List ObjV} {n k : Nat} {by_ : Int} (hk : k < n) (x : Int) :
    wrongP (objL l (fun i => (cntI l n i : Int) + if i = k then by_ else 0) n) (zerosL l n n) x = decide (x = (k : Int) ∧ by_ ≠ 0) := by
  by_cases hx : ∃ i : Nat, i < n ∧ (i : Int) = x
  · obtain ⟨i, hi, rfl⟩ := hx
    unfold wrongP
    rw [firstO_objL hi]
    have hc : countR (objL l (fun i => (cntI l n i : Int) + if i = k then by_ else 0) n) (i : Int) = cntI l n i := countR_objL _ n
    have hz : decide ((i : Int) ∈ zerosL l n n) = decide (cntI l n i = 0) := by
      rw [decide_eq_decide, zerosL_mem]
      constructor
      · rintro ⟨j, _, h2, h3⟩
        have : j = i := by omega
        rw [← this]; exact h3
      · intro h; exact ⟨i, hi, rfl, h⟩
    dsimp only
    rw [hc, hz]
    unfold wrongB objI
    dsimp only
    rw [if_neg (by decide)]
    have hcz : decide (cntI l n i = 0) = ((cntI l n i : Int) == 0) := by rw [Bool.eq_iff_iff, decide_eq_true_iff, beq_iff_eq]; omega
    by_cases e : i = k
    · subst e
      by_cases hb : by_ = 0
      · subst hb
        rw [if_pos rfl, Int.add_zero, hcz]
        simp
      · have h1 : ((cntI l n i : Int) + (if i = i then by_ else 0) != (cntI l n i : Int)) = true := by rw [bne_iff_ne, if_pos rfl]; omega
        rw [h1]
        simp [hb]
    · rw [if_neg e, Int.add_zero, hcz, decide_eq_false (show ¬ ((i : Int) = (k : Int) ∧ by_ ≠ 0) by omega)]
      simp
  · have hne : ∀ i : Nat, i < n → (i : Int) ≠ x := fun i hi e => hx ⟨i, hi, e⟩
    unfold wrongP
    rw [firstO_objL_none hne]
    dsimp only
    rw [decide_eq_decide, zerosL_mem]
    constructor
    · rintro ⟨i, h1, h2, _⟩; exact absurd h2.symm (hne i h1)
    · rintro ⟨h1, _⟩; exact absurd h1.symm (hne k hk)

/-! ### objects in a block of the law's own -/
structure OwnO (w : World) (g off n cap : Nat) (L : List ObjV) : Prop where
  size : L.length = n
  le : n ≤ cap
  max : cap ≤ 9223372036854775807
  blk : ∃ cur t, w.heap[g]? = some (.cells cur t (0, 0)) ∧ off + n * 5 ≤ cur.size ∧ ∀ i o, L[i]? = some o → cur[off + i * 5]? = some (.int .i64 o.h) ∧ cur[off + i * 5 + 1]? = some (.int .i64 o.k) ∧ cur[off + i * 5 + 2]? = some (.int .i64 o.c) ∧ cur[off + i * 5 + 3]? = some (.bool o.s) ∧ cur[off + i * 5 + 4]? = some (.slice o.ra o.rl o.rc)
theorem OwnO.keeps {w w' : World} {g off n cap : Nat} {L : List ObjV} (h : OwnO w g off n cap L) {S : List Nat} (k : Keeps S w w') (hg : g ∉ S) : OwnO w' g off n cap L := by
  obtain ⟨h1, h2, h3, cur, t, h4, h5⟩ := h
  exact ⟨h1, h2, h3, cur, t, k.at h4 hg, h5⟩
theorem OwnO.lt {w : World} {g off n cap : Nat} {L : List ObjV} (h : OwnO w g off n cap L) : g < w.heap.size := by
  obtain ⟨_, _, _, cur, t, h4, _⟩ := h
  exact (Array.getElem?_eq_some_iff.1 h4).1
theorem OwnO.objs {w : World} {g off n cap : Nat} {L : List ObjV} (h : OwnO w g off n cap L) (hw : ∀ o ∈ L, (Lit.int .i64 o.h).wf = true) (hr : ∀ o ∈ L, NumsAt w o.ra o.rl o.rc o.refs) : ObjsAt w (some ⟨g, off, none⟩) n cap L := by
  have hlt := h.lt
  obtain ⟨h1, h2, h3, cur, t, h4, _, h5⟩ := h
  refine ⟨h1, h2, h3, fun e => (by cases e), fun i o ho => ?_, hw, hr⟩
  obtain ⟨c0, c1, c2, c3, c4⟩ := h5 i o ho
  exact ⟨g, off, rfl, hlt, by rw [cell_of_block h4]; exact c0, by rw [cell_of_block h4]; exact c1, by rw [cell_of_block h4]; exact c2, by rw [cell_of_block h4]; exact c3, by rw [cell_of_block h4]; exact c4⟩
/-- a count is written -/
theorem OwnO.set {w : World} {g off n cap : Nat} {l : List ObjV} {cf : Nat → Int} (h : OwnO w g off n cap (objL l cf n)) {i : Nat} (hi : i < n) (c : Int) :
    OwnO (w.setCell ⟨g, off + i * 5 + 2, none⟩ (.int .i64 c)) g off n cap (objL l (fun j => if j = i then c else cf j) n) := by
  obtain ⟨h1, h2, h3, cur, t, h4, h5, h6⟩ := h
  refine ⟨objL_len, h2, h3, _, t, setCell_block h4 _, by simpa using h5, fun j o ho => ?_⟩
  have hj : j < n := by have := (List.getElem?_eq_some_iff.1 ho).1; rwa [objL_len] at this
  rw [objL_at hj] at ho
  cases ho
  obtain ⟨c0, c1, c2, c3, c4⟩ := h6 j _ (objL_at hj)
  have ne : ∀ d, d < 5 → (d ≠ 2 ∨ j ≠ i) → (cur.setIfInBounds (off + i * 5 + 2) (.int .i64 c))[off + j * 5 + d]? = cur[off + j * 5 + d]? := fun d hd h => by
    rw [Array.getElem?_setIfInBounds, if_neg (by omega)]
  refine ⟨(ne 0 (by omega) (.inl (by omega))).trans c0, (ne 1 (by omega) (.inl (by omega))).trans c1, ?_, (ne 3 (by omega) (.inl (by omega))).trans c3, (ne 4 (by omega) (.inl (by omega))).trans c4⟩
  by_cases e : j = i
  · subst e
    rw [Array.getElem?_setIfInBounds, if_pos rfl, if_pos (by omega)]
    simp [objI]
  · rw [ne 2 (by omega) (.inr e), c2]
    simp [objI, e]
/-- objects as cells -/
def cellsO (l : List ObjV) : List Value := l.flatMap fun o => [.int .i64 o.h, .int .i64 o.k, .int .i64 o.c, .bool o.s, .slice o.ra o.rl o.rc]
theorem cellsO_app (l m : List ObjV) : cellsO (l ++ m) = cellsO l ++ cellsO m := by simp [cellsO]
theorem cellsO_one (l : List ObjV) : ∀ x ∈ cellsO l, x.oneCell' = true := by
  intro x hx
  simp only [cellsO, List.mem_flatMap] at hx
  obtain ⟨r, _, hr⟩ := hx
  simp at hr
  rcases hr with rfl | rfl | rfl | rfl | rfl <;> rfl
theorem cellsO_at {l : List ObjV} {i : Nat} {o : ObjV} (h : l[i]? = some o) : (cellsO l)[i * 5]? = some (.int .i64 o.h) ∧ (cellsO l)[i * 5 + 1]? = some (.int .i64 o.k) ∧ (cellsO l)[i * 5 + 2]? = some (.int .i64 o.c) ∧ (cellsO l)[i * 5 + 3]? = some (.bool o.s) ∧ (cellsO l)[i * 5 + 4]? = some (.slice o.ra o.rl o.rc) := by
  induction l generalizing i with
  | nil => simp at h
  | cons y l ih =>
    simp only [cellsO, List.flatMap_cons]
    cases i with
    | zero =>
      simp at h
      subst h
      exact ⟨rfl, rfl, rfl, rfl, rfl⟩
    | succ i =>
      rw [List.getElem?_cons_succ] at h
      have key : ∀ d, ([Value.int .i64 y.h, .int .i64 y.k, .int .i64 y.c, .bool y.s, .slice y.ra y.rl y.rc] ++ List.flatMap (fun o : ObjV => [Value.int .i64 o.h, .int .i64 o.k, .int .i64 o.c, .bool o.s, .slice o.ra o.rl o.rc]) l)[(i + 1) * 5 + d]? = (cellsO l)[i * 5 + d]? := fun d => by
        rw [List.getElem?_append_right (by simp; omega)]
        unfold cellsO
        congr 1
        simp; omega
      obtain ⟨h0, h1, h2, h3, h4⟩ := ih h
      exact ⟨(key 0).trans h0, (key 1).trans h1, (key 2).trans h2, (key 3).trans h3, (key 4).trans h4⟩
theorem RowS.owns {w : World} {g off n cap : Nat} {L : List ObjV} (h : RowS w 5 (.slice (some ⟨g, off, none⟩) n cap) n (cellsO L)) (hL : L.length = n) : OwnO w g off n cap L := by
  obtain ⟨_, h2⟩ := h
  rcases h2 with ⟨h0, _⟩ | ⟨g', off', cap', cur, e, he, hh, r1, r2, r3, r4⟩
  · cases h0
  · cases he
    refine ⟨hL, r1, by simpa [maxLen] using r2, cur, e, hh, by omega, fun i o ho => ?_⟩
    obtain ⟨c0, c1, c2, c3, c4⟩ := cellsO_at ho
    exact ⟨r4 _ _ c0, r4 _ _ c1, r4 _ _ c2, r4 _ _ c3, r4 _ _ c4⟩
theorem new_obj (w : World) (a b c d e : Value) (t : TypeId) : Src (w.alloc (.cells #[a, b, c, d, e] t)) (.slice (some ⟨w.heap.size, 0, none⟩) 1 1) 1 5 [a, b, c, d, e] := by
  refine .inr ⟨_, _, rfl, rfl, fun j v hv => ?_⟩
  have hh := heap_alloc_at w (.cells #[a, b, c, d, e] t)
  match j, hv with
  | 0, hv => cases hv; exact cell_of_block hh
  | 1, hv => cases hv; exact cell_of_block hh
  | 2, hv => cases hv; exact cell_of_block hh
  | 3, hv => cases hv; exact cell_of_block hh
  | 4, hv => cases hv; exact cell_of_block hh
  | j + 5, hv => simp at hv
theorem obj_info : (Try.prog.info? 47).map (fun i => (i.zero, i.size, i.bytes)) = some (some (.agg #[.int .i64 0, .int .i64 0, .int .i64 0, .bool false, .slice none 0 0]), 5, 56) := by kernel_rfl
/-- a row of objects that a call builds by append -/
structure AccO (w : World) (v : Value) (acc : List ObjV) (wr : World) : Prop where
  row : RowS wr 5 v acc.length (cellsO acc)
  new : ∀ g, v.ownBlock = some g → w.heap.size ≤ g
  bel : Below w.heap.size w wr
theorem AccO.start (w : World) : AccO w (.slice none 0 0) [] w := ⟨RowS.nil _ _, (fun g h => by cases h), Below.refl _ _⟩
theorem AccO.push {w wr w2 : World} {v v2 : Value} {acc : List ObjV} (h : AccO w v acc wr) {o : ObjV} {ob : Obj} (hr : RowS w2 5 v2 (acc.length + 1) (cellsO acc ++ [.int .i64 o.h, .int .i64 o.k, .int .i64 o.c, .bool o.s, .slice o.ra o.rl o.rc])) (hg : (wr.alloc ob).grownBy w2 v.ownBlock) (hv : v2.ownBlock = v.ownBlock ∨ ∃ g, v2.ownBlock = some g ∧ wr.heap.size + 1 ≤ g) : AccO w v2 (acc ++ [o]) w2 := by
  have hs := h.bel.size
  refine ⟨by rw [List.length_append, cellsO_app]; exact hr, fun g hg' => ?_, ?_⟩
  · rcases hv with hv | ⟨g', hv, hge⟩
    · exact h.new g (by rw [← hv]; exact hg')
    · rw [hv] at hg'; cases hg'; omega
  · exact (h.bel.alloc hs ob).trans ⟨hg.os, hg.tape, hg.output, hg.size, fun k hk => hg.block k (by rw [size_alloc]; omega) (fun e => by have := h.new k e.symm; omega)⟩
theorem AccO.src {w wr : World} {v : Value} {acc : List ObjV} (h : AccO w v acc wr) (ob : Obj) : RowS (wr.alloc ob) 5 v acc.length (cellsO acc) :=
  h.row.keeps ((Keeps.refl [] wr).alloc ob) fun _ _ => List.not_mem_nil
end Go.Proofs.Ytogifanooleppaa

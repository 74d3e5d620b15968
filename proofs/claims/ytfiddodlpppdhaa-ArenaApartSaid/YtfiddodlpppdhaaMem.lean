/- What a law's walk is told of a slice of integers that came in. -/
import Derived.Test.YtfiddodlpppdhaaChecked
import Derived.WalkKit
import Derived.ProofKit
import Derived.OpenShut
import Derived.ShutString
import Derived.ChangeOld
import Derived.Below
import Derived.Deep.QuietTactic
import Derived.BigQuiet
import Derived.OwnWalk
import Derived.Laws.OwnMore
import Derived.Lib.Hide
namespace Go.Proofs.Ytfiddodlpppdhaa
open Go.RowKit Go.ChangeShapes Go.WideShapes

/-- a slice of integers, readable up to its length -/
structure Ints (k : IntKind) (w : World) (a : Option Addr) (len cap : Nat) (z : Nat → Int) : Prop where
  le : len ≤ cap
  max : cap ≤ 9223372036854775807
  nil : a = none → len = 0 ∧ cap = 0
  cell : ∀ i, i < len → ∃ b off, a = some ⟨b, off, none⟩ ∧ b < w.heap.size ∧ w.cell? ⟨b, off + i, none⟩ = some (.int k (z i))
  wf : ∀ i, i < len → (Lit.int k (z i)).wf = true

theorem Ints.below {k : IntKind} {w w' : World} {a : Option Addr} {len cap : Nat} {z : Nat → Int} (h : Ints k w a len cap z) (hb : Below w.heap.size w w') : Ints k w' a len cap z :=
  ⟨h.le, h.max, h.nil, fun i hi => by
    obtain ⟨b, off, e, hlt, hc⟩ := h.cell i hi
    exact ⟨b, off, e, Nat.lt_of_lt_of_le hlt hb.size, (hb.cell (p := ⟨b, off + i, none⟩) hlt).trans hc⟩, h.wf⟩

theorem ints_nil (k : IntKind) (w : World) (z : Nat → Int) : Ints k w none 0 0 z :=
  ⟨Nat.le_refl _, by decide, fun _ => ⟨rfl, rfl⟩, fun i h => absurd h (by omega), fun i h => absurd h (by omega)⟩

theorem ints_row {k : IntKind} {w : World} {x : Addr} {l c : Nat} {zs : List Int} (hl : l ≤ c) (hm : c ≤ maxLen) (hz : zs.length = c)
    (hcell : ∀ i, i < zs.length → w.cell? (x.add i) = some (.int k (zs.getD i 0))) (hwz : ∀ n ∈ zs, (Lit.int k n).wf = true) : Ints k w (some x) l c (fun i => zs.getD i 0) := by
  refine ⟨hl, by simpa [maxLen] using hm, fun e => (by cases e), fun i hi => ?_, fun i hi => ?_⟩
  · have hc := hcell i (by omega)
    obtain ⟨b, off, spot⟩ := x
    have hc0 := hcell 0 (by omega)
    have hspot : spot = none := by simpa [Addr.add] using World.cell?_spot hc0
    subst hspot
    refine ⟨b, off, rfl, World.block_lt_of_cell? w _ hc0, ?_⟩
    rw [← hc]
    unfold Addr.add
    by_cases h0 : i = 0
    · subst h0; rfl
    · rw [if_neg h0]
  · have hlt : i < zs.length := by omega
    have : zs.getD i 0 ∈ zs := by
      rw [List.getD_eq_getElem?_getD, List.getElem?_eq_getElem hlt, Option.getD_some]
      exact List.getElem_mem hlt
    exact hwz _ this

/-! ### append, whatever the source; the operation may be guarded -/
/-- what a slice that is appended holds -/
def Src (w : World) (sv : Value) (m size : Nat) (news : List Value) : Prop :=
  (sv = .slice none 0 0 ∧ m = 0 ∧ news = []) ∨ ∃ ad c, sv = .slice (some ad) m c ∧ news.length = m * size ∧ ∀ j u, news[j]? = some u → w.cell? (ad.add j) = some u

theorem wpList_app {P : Program} {w : World} {ops : Array Oper} {rest : List Oper} {o : Oper} {a : Act} {Q : Exit → Act → World → Prop} (hw : Region.wanted o (yielded ops a.tmps) = true) (s x : Operand) (t : TypeId)
    (ho : o.op = .call { callee := .builtin .append, args := #[s, x], argTypes := #[t, t] })
    (base : Nat) (e : TypeId) (i : TypeInfo) (z : Value) (size bytes : Nat) (ht : P.underlying t = some (.slice e)) (hi : P.info? e = some i) (hz : i.zero = some z)
    (hsize : i.size = size) (hby : i.bytes = bytes) (hzs : z.cells.size = size) (hsz : 0 < size)
    (v : Value) (n : Nat) (xs : List Value) (hs : a.eval s = v) (hown : w.ownsRow base e size v n xs)
    (sv : Value) (m : Nat) (news : List Value) (hx : a.eval x = sv) (hsrc : Src w sv m size news) (h1 : ∀ u ∈ news, u.oneCell' = true)
    (h63 : n + m ≤ maxLen) (hbytes : (n + m) * bytes ≤ 140737488355328) (hbase : base ≤ w.heap.size)
    (h : ∀ v' w', w'.ownsRow base e size v' (n + m) (xs ++ news) → w.grownBy w' v.ownBlock → (v' = .slice none 0 0 ↔ v = .slice none 0 0 ∧ m = 0) → wpList P ops Q rest (a.put o.dst v') w') :
    wpList P ops Q (o :: rest) a w := by
  refine wpList_step fun K hK => ?_
  rw [if_pos hw]
  rcases hsrc with ⟨rfl, rfl, rfl⟩ | ⟨ad, c, rfl, hl, hnews⟩
  · have hrun := run_append_owned_none (P := P) (w := w) base t o.type e i size ht hi v n xs hown
    unfold Oper.wp
    simp [execOp, ho, resolve, invoke, builtin, hs, hx, hrun, Result.andThen]
    exact hK _ _ (h v w (by simpa using hown) (World.grownBy.refl _ _) (by simp))
  · exact wp_append_own w s x t ho base e i z size bytes ht hi hz hsize hby hzs hsz v n xs hs hown ad m c news hx hl hnews h1 h63 hbytes hbase fun v' w' h2 h3 h4 => hK _ _ (h v' w' h2 h3 h4)

/-- what an owned row reads as, nil let in -/
theorem owns_read {w : World} {base : Nat} {e : TypeId} {v : Value} {n : Nat} {xs : List Value} (h : w.ownsRow base e 1 v n xs) :
    ∃ a cap, v = .slice a n cap ∧ n ≤ cap ∧ cap ≤ maxLen ∧ (a = none → n = 0 ∧ cap = 0) ∧ ∀ i, i < n → ∃ b, a = some ⟨b, 0, none⟩ ∧ base ≤ b ∧ b < w.heap.size ∧ w.cell? ⟨b, i, none⟩ = xs[i]? := by
  obtain ⟨hl, h⟩ := h
  rcases h with ⟨rfl, rfl⟩ | ⟨g, cap, cur, rfl, hb, hg, hn, hc, hs, ht⟩
  · exact ⟨none, 0, rfl, Nat.le_refl _, Nat.zero_le _, fun _ => ⟨rfl, rfl⟩, fun i hi => absurd hi (by omega)⟩
  · refine ⟨_, cap, rfl, hn, hc, fun e => (by cases e), fun i hi => ⟨g, rfl, hb, (Array.getElem?_eq_some_iff.1 hg).1, ?_⟩⟩
    have h0 : w.cell? ⟨g, i, none⟩ = cur[i]? := by simp [World.cell?, hg]
    rw [h0, ← ht, List.getElem?_take, if_pos (by omega), Array.getElem?_toList]
theorem mapInts_get (k : IntKind) (z : Nat → Int) (n i : Nat) (h : i < n) : ((List.range n).map fun i => Value.int k (z i))[i]? = some (.int k (z i)) := by
  simp [h]
theorem owns_ints {w : World} {base : Nat} {e : TypeId} {v : Value} {n : Nat} {k : IntKind} {z : Nat → Int} (h : w.ownsRow base e 1 v n ((List.range n).map fun i => Value.int k (z i))) (hz : ∀ i, i < n → (Lit.int k (z i)).wf = true) :
    ∃ a cap, v = .slice a n cap ∧ Ints k w a n cap z := by
  obtain ⟨a, cap, rfl, h1, h2, h3, h4⟩ := owns_read h
  refine ⟨a, cap, rfl, h1, by simpa [maxLen] using h2, h3, fun i hi => ?_, hz⟩
  obtain ⟨b, rfl, _, hb, hc⟩ := h4 i hi
  exact ⟨b, 0, rfl, hb, by rw [Nat.zero_add, hc, mapInts_get k z n i hi]⟩
/-- a slice of integers that came in, as what is appended -/
theorem Ints.src {k : IntKind} {w : World} {a : Option Addr} {len cap : Nat} {z : Nat → Int} (h : Ints k w a len cap z) : Src w (.slice a len cap) len 1 ((List.range len).map fun i => Value.int k (z i)) := by
  cases ha : a with
  | none =>
    obtain ⟨rfl, rfl⟩ := h.nil ha
    exact .inl ⟨rfl, rfl, rfl⟩
  | some ad =>
    refine .inr ⟨ad, cap, rfl, by simp, fun j u hu => ?_⟩
    have hj : j < len := by
      have := (List.getElem?_eq_some_iff.1 hu).1
      simpa using this
    obtain ⟨b, off, e, _, hc⟩ := h.cell j hj
    rw [ha] at e
    cases e
    rw [mapInts_get k z len j hj] at hu
    cases hu
    unfold Addr.add
    by_cases h0 : j = 0
    · subst h0; rw [if_pos rfl]; exact hc
    · rw [if_neg h0]; exact hc
theorem oneInts (k : IntKind) (z : Nat → Int) (n : Nat) : ∀ u ∈ (List.range n).map fun i => Value.int k (z i), u.oneCell' = true := by
  intro u hu
  obtain ⟨i, _, rfl⟩ := List.mem_map.1 hu
  rfl

/-! ### frames: all but some blocks is as it was -/
/-- the world is as it was but for the blocks of a list, and new ones -/
structure Keeps (l : List Nat) (w w' : World) : Prop where
  os : w'.os = w.os
  tape : w'.tape = w.tape
  output : w'.output = w.output
  size : w.heap.size ≤ w'.heap.size
  block : ∀ k, k < w.heap.size → k ∉ l → w'.heap[k]? = w.heap[k]?

section
variable {l l' : List Nat} {a b c w w' : World}
theorem Keeps.refl (l : List Nat) (w : World) : Keeps l w w := ⟨rfl, rfl, rfl, Nat.le_refl _, fun _ _ _ => rfl⟩
theorem Keeps.trans (h : Keeps l a b) (k : Keeps l b c) : Keeps l a c :=
  ⟨k.os.trans h.os, k.tape.trans h.tape, k.output.trans h.output, Nat.le_trans h.size k.size, fun i hi hn => (k.block i (Nat.lt_of_lt_of_le hi h.size) hn).trans (h.block i hi hn)⟩
/-- a second step may turn what the first one made -/
theorem Keeps.then (h : Keeps l a b) (k : Keeps l' b c) (hl : ∀ x ∈ l', x ∈ l ∨ a.heap.size ≤ x) : Keeps l a c :=
  ⟨k.os.trans h.os, k.tape.trans h.tape, k.output.trans h.output, Nat.le_trans h.size k.size, fun i hi hn =>
    (k.block i (Nat.lt_of_lt_of_le hi h.size) (fun hm => (hl i hm).elim hn (fun hge => absurd hi (by omega)))).trans (h.block i hi hn)⟩
theorem Keeps.mono (h : Keeps l w w') (hl : ∀ x ∈ l, x ∈ l') : Keeps l' w w' := ⟨h.os, h.tape, h.output, h.size, fun k hk hn => h.block k hk (fun hm => hn (hl k hm))⟩
theorem Keeps.of_below {B : Nat} (h : Below B w w') (hB : w.heap.size ≤ B) (l : List Nat) : Keeps l w w' := ⟨h.os, h.tape, h.output, h.size, fun k hk _ => h.block k (Nat.lt_of_lt_of_le hk hB)⟩
theorem Keeps.of_grown {g : Nat} (h : w.grownBy w' (some g)) (hg : g ∈ l) : Keeps l w w' := ⟨h.os, h.tape, h.output, h.size, fun k hk hn => h.block k hk (fun e => hn (by cases e; exact hg))⟩
theorem Keeps.of_grown_none (h : w.grownBy w' none) (l : List Nat) : Keeps l w w' := ⟨h.os, h.tape, h.output, h.size, fun k hk _ => h.block k hk (fun e => by cases e)⟩
theorem Keeps.of_row {row : Option Nat} (h : w.grownBy w' row) (hg : ∀ g, row = some g → g ∈ l) : Keeps l w w' := ⟨h.os, h.tape, h.output, h.size, fun k hk hn => h.block k hk (fun e => hn (hg k e.symm))⟩
theorem Keeps.drewN (h : Keeps l a w) (n : Nat) : Keeps l a (w.drewN n) := ⟨h.os, h.tape, h.output, h.size, h.block⟩
theorem Keeps.drew (h : Keeps l a w) : Keeps l a w.drew := ⟨h.os, h.tape, h.output, h.size, h.block⟩
theorem Keeps.alloc (h : Keeps l a w) (o : Obj) : Keeps l a (w.alloc o) :=
  h.trans (Keeps.of_below ((Below.refl _ _).alloc (Nat.le_refl _) o) (Nat.le_refl _) l)
theorem Keeps.setCell (h : Keeps l a w) {p : Addr} (hp : p.block ∈ l ∨ a.heap.size ≤ p.block) (u : Value) : Keeps l a (w.setCell p u) :=
  ⟨h.os, h.tape, h.output, by simpa [World.setCell] using h.size, fun i hi hn => by
    have hne : i ≠ p.block := by
      rintro rfl
      rcases hp with hp | hp
      · exact hn hp
      · omega
    exact (Below.heap_setCell w p u i hne).trans (h.block i hi hn)⟩
theorem Keeps.below (h : Keeps l w w') {B : Nat} (hB : B ≤ w.heap.size) (hl : ∀ k ∈ l, B ≤ k) : Below B w w' :=
  ⟨h.os, h.tape, h.output, h.size, fun k hk => h.block k (Nat.lt_of_lt_of_le hk hB) (fun hm => absurd hk (by have := hl k hm; omega))⟩
theorem Keeps.at (h : Keeps l w w') {k : Nat} {o : Obj} (hk : w.heap[k]? = some o) (hn : k ∉ l) : w'.heap[k]? = some o :=
  (h.block k (Array.getElem?_eq_some_iff.1 hk).1 hn).trans hk
end
theorem below_keeps {B : Nat} {a w w' : World} (h : Below B a w) {l : List Nat} (k : Keeps l w w') (hB : B ≤ w.heap.size) (hl : ∀ k ∈ l, B ≤ k) : Below B a w' := h.trans (k.below hB hl)

/-- 'make' of a length that a number is -/
theorem makes_len {P : Program} (t e : TypeId) (i : TypeInfo) (z : Value) (ht : P.underlying t = some (.slice e)) (hi : P.info? e = some i) (hz : i.zero = some z)
    (kl kc : IntKind) (n c : Nat) (hnc : n ≤ c) (hbytes : i.bytes * c ≤ 281474976710656) (h63 : c ≤ 9223372036854775807) (w : World) :
    (Instr.makeSlice t (.int kl (n : Int)) (.int kc (c : Int))).run P w = .ok (.slice (some ⟨w.heap.size, 0, none⟩) n c) (w.alloc (.cells (madeCells z.cells (c * i.size)) e)) := by
  have hb : (i.bytes : Int) * (c : Int) ≤ 281474976710656 := by
    have h : ((i.bytes * c : Nat) : Int) ≤ 281474976710656 := by omega
    rwa [Int.natCast_mul] at h
  have hr := run_make (P := P) w t e i z ht hi hz kl kc n c (by omega) (by omega) hb (by omega)
  simp only [Int.toNat_natCast] at hr
  exact hr
theorem heap_alloc_at (w : World) (o : Obj) : (w.alloc o).heap[w.heap.size]? = some o := heap_alloc_new w o
theorem heap_alloc_lt (w : World) (o : Obj) {k : Nat} (h : k < w.heap.size) : (w.alloc o).heap[k]? = w.heap[k]? := Below.heap_alloc w o k h
theorem size_alloc (w : World) (o : Obj) : (w.alloc o).heap.size = w.heap.size + 1 := by simp
/-- a block of cells read, and free to be written -/
theorem cell_of_block {w : World} {b i : Nat} {cs : Array Value} {t : TypeId} (h : w.heap[b]? = some (.cells cs t (0, 0))) : w.cell? ⟨b, i, none⟩ = cs[i]? := by simp [World.cell?, h]
theorem free_of_block {w : World} {b i : Nat} {cs : Array Value} {t : TypeId} (h : w.heap[b]? = some (.cells cs t (0, 0))) : w.frozen? ⟨b, i, none⟩ = false := by simp [World.frozen?, h]
theorem setCell_block {w : World} {b i : Nat} {cs : Array Value} {t : TypeId} (h : w.heap[b]? = some (.cells cs t (0, 0))) (u : Value) : (w.setCell ⟨b, i, none⟩ u).heap[b]? = some (.cells (cs.setIfInBounds i u) t (0, 0)) := by
  have hlt := (Array.getElem?_eq_some_iff.1 h).1
  simp only [World.setCell, Array.getElem?_modify, if_true, h]
  simp
theorem setCell_other {w : World} {b i k : Nat} (u : Value) (hne : k ≠ b) : (w.setCell ⟨b, i, none⟩ u).heap[k]? = w.heap[k]? := Below.heap_setCell w ⟨b, i, none⟩ u k hne
/-- a block of one cell, just made, as what is appended -/
theorem new_one (w : World) (u : Value) (t : TypeId) : Src (w.alloc (.cells #[u] t)) (.slice (some ⟨w.heap.size, 0, none⟩) 1 1) 1 1 [u] := by
  refine .inr ⟨_, _, rfl, rfl, fun j v hv => ?_⟩
  cases j with
  | zero =>
    simp only [List.getElem?_cons_zero, Option.some.injEq] at hv
    subst hv
    have := cell_of_block (i := 0) (heap_alloc_at w (.cells #[u] t))
    simp only [Addr.add, if_pos]
    exact this
  | succ j => simp at hv
theorem one_of {u : Value} (h : u.oneCell' = true) : ∀ x ∈ [u], x.oneCell' = true := by
  intro x hx; cases List.mem_singleton.1 hx; exact h
/-- one number of a row of integers is written -/
theorem Ints.set {k : IntKind} {w : World} {g off len cap j : Nat} {z : Nat → Int} {cur : Array Value} {t : TypeId} {u : Int} (h : Ints k w (some ⟨g, off, none⟩) len cap z) (hg : w.heap[g]? = some (.cells cur t (0, 0)))
    (hj : j < len) (hu : (Lit.int k u).wf = true) : Ints k (w.setCell ⟨g, off + j, none⟩ (.int k u)) (some ⟨g, off, none⟩) len cap (fun i => if i = j then u else z i) := by
  refine ⟨h.le, h.max, fun e => (by cases e), fun i hi => ?_, fun i hi => ?_⟩
  · obtain ⟨b, o, e, hlt, hc⟩ := h.cell i hi
    cases e
    refine ⟨g, off, rfl, by simpa [World.setCell] using hlt, ?_⟩
    rw [cell_of_block hg] at hc
    rw [cell_of_block (setCell_block hg _), Array.getElem?_setIfInBounds]
    have hlt2 : off + i < cur.size := (Array.getElem?_eq_some_iff.1 hc).1
    by_cases hij : i = j
    · subst hij
      rw [if_pos rfl, if_pos hlt2, if_pos rfl]
    · rw [if_neg (by omega), if_neg hij, hc]
  · by_cases hij : i = j
    · rw [if_pos hij]; exact hu
    · rw [if_neg hij]; exact h.wf i hi
theorem grown_set (w : World) (a : Addr) (u : Value) : w.grownBy (w.setCell a u) (some a.block) :=
  ⟨rfl, rfl, rfl, by simp [World.setCell], fun k _ hne => Below.heap_setCell w a u k (fun e => hne (by rw [e]))⟩
theorem grown_drew {w w' : World} {r : Option Nat} (h : w.grownBy w' r) : w.grownBy w'.drew r := ⟨h.os, h.tape, h.output, h.size, h.block⟩
theorem grown_drewN {w w' : World} {r : Option Nat} (h : w.grownBy w' r) (n : Nat) : w.grownBy (w'.drewN n) r := ⟨h.os, h.tape, h.output, h.size, h.block⟩
theorem grown_trans {a b c : World} {r : Option Nat} (h : a.grownBy b r) (k : b.grownBy c r) : a.grownBy c r :=
  ⟨k.os.trans h.os, k.tape.trans h.tape, k.output.trans h.output, Nat.le_trans h.size k.size, fun i hi hn => (k.block i (Nat.lt_of_lt_of_le hi h.size) hn).trans (h.block i hi hn)⟩
end Go.Proofs.Ytfiddodlpppdhaa

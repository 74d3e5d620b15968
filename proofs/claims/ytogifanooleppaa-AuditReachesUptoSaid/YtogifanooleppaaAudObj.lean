/- audit's objects as they lie in memory. -/
import Derived.Test.YtogifanooleppaaAudMath
import Derived.Test.YtogifanooleppaaSortKeys
namespace Go.Proofs.Ytogifanooleppaa
open Go.RowKit Go.Maps
set_option linter.unusedVariables false

theorem ints_intC {z : List Int} : ((List.range z.length).map fun i => Value.int .i64 (hg z i)) = intC z := by
  apply List.ext_getElem?
  intro i
  unfold intC
  rw [List.getElem?_map, List.getElem?_map]
  by_cases h : i < z.length
  · rw [List.getElem?_range h, hg_some h]; rfl
  · rw [List.getElem?_eq_none (by simpa using h), List.getElem?_eq_none (by omega)]; rfl
/-- a list of numbers that came in -/
structure NumsAt (w : World) (a : Option Addr) (len cap : Nat) (l : List Int) : Prop where
  size : l.length = len
  ints : Ints .i64 w a len cap (hg l)
theorem NumsAt.below {w w' : World} {a : Option Addr} {len cap : Nat} {l : List Int} (h : NumsAt w a len cap l) (hb : Below w.heap.size w w') : NumsAt w' a len cap l := ⟨h.size, h.ints.below hb⟩
theorem NumsAt.src {w : World} {a : Option Addr} {len cap : Nat} {l : List Int} (h : NumsAt w a len cap l) : Src w (.slice a len cap) len 1 (intC l) := by
  have := h.ints.src
  rw [← h.size, ints_intC] at this
  rw [← h.size]
  exact this
theorem NumsAt.wf {w : World} {a : Option Addr} {len cap : Nat} {l : List Int} (h : NumsAt w a len cap l) {x : Int} (hx : x ∈ l) : (Lit.int .i64 x).wf = true := by
  obtain ⟨i, hi, rfl⟩ := List.mem_iff_getElem.1 hx
  have := h.ints.wf i (by have := h.size; omega)
  unfold hg at this
  rw [List.getElem?_eq_getElem hi] at this
  exact this
theorem NumsAt.of {w : World} {a : Option Addr} {len cap : Nat} {z : Nat → Int} (h : Ints .i64 w a len cap z) : NumsAt w a len cap ((List.range len).map z) := by
  refine ⟨by simp, h.le, h.max, h.nil, fun i hi => ?_, fun i hi => ?_⟩
  · have e : hg ((List.range len).map z) i = z i := by unfold hg; simp [hi]
    rw [e]; exact h.cell i hi
  · have e : hg ((List.range len).map z) i = z i := by unfold hg; simp [hi]
    rw [e]; exact h.wf i hi
structure ObjsAt (w : World) (a : Option Addr) (len cap : Nat) (l : List ObjV) : Prop where
  size : l.length = len
  le : len ≤ cap
  max : cap ≤ 9223372036854775807
  nil : a = none → len = 0 ∧ cap = 0
  cell : ∀ i o, l[i]? = some o → ∃ b off, a = some ⟨b, off, none⟩ ∧ b < w.heap.size ∧ w.cell? ⟨b, off + i * 5, none⟩ = some (.int .i64 o.h) ∧ w.cell? ⟨b, off + i * 5 + 1, none⟩ = some (.int .i64 o.k) ∧ w.cell? ⟨b, off + i * 5 + 2, none⟩ = some (.int .i64 o.c) ∧ w.cell? ⟨b, off + i * 5 + 3, none⟩ = some (.bool o.s) ∧ w.cell? ⟨b, off + i * 5 + 4, none⟩ = some (.slice o.ra o.rl o.rc)
  wf : ∀ o ∈ l, (Lit.int .i64 o.h).wf = true
  refs : ∀ o ∈ l, NumsAt w o.ra o.rl o.rc o.refs
theorem ObjsAt.below {w w' : World} {a : Option Addr} {len cap : Nat} {l : List ObjV} (h : ObjsAt w a len cap l) (hb : Below w.heap.size w w') : ObjsAt w' a len cap l :=
  ⟨h.size, h.le, h.max, h.nil, fun i o ho => by
    obtain ⟨b, off, e, hlt, c0, c1, c2, c3, c4⟩ := h.cell i o ho
    exact ⟨b, off, e, Nat.lt_of_lt_of_le hlt hb.size, (hb.cell (p := ⟨b, off + i * 5, none⟩) hlt).trans c0, (hb.cell (p := ⟨b, off + i * 5 + 1, none⟩) hlt).trans c1, (hb.cell (p := ⟨b, off + i * 5 + 2, none⟩) hlt).trans c2, (hb.cell (p := ⟨b, off + i * 5 + 3, none⟩) hlt).trans c3, (hb.cell (p := ⟨b, off + i * 5 + 4, none⟩) hlt).trans c4⟩,
    h.wf, fun o ho => (h.refs o ho).below hb⟩
end Go.Proofs.Ytogifanooleppaa

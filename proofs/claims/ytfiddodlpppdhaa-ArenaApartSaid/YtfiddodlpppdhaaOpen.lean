/- What a law's walk is told of a slice, or a struct, that came in: its cells, and how each reads. -/
import Derived.Test.YtfiddodlpppdhaaMem
import Derived.Deep.Slices
import Derived.Deep.Fields
import Derived.ChangeSame
import Derived.SizedLaws
namespace Go.Proofs.Ytfiddodlpppdhaa
open Go.RowKit Go.ChangeShapes Go.WideShapes Go.Deep
set_option linter.unusedVariables false

/-- a slice of elements of so many cells, readable up to its length -/
structure Rows (w : World) (a : Option Addr) (len cap size : Nat) (F : Nat → Nat → Value) : Prop where
  le : len ≤ cap
  max : cap ≤ 9223372036854775807
  nil : a = none → len = 0 ∧ cap = 0
  cell : ∀ i j, i < len → j < size → ∃ b off, a = some ⟨b, off, none⟩ ∧ b < w.heap.size ∧ w.cell? ⟨b, off + (i * size + j), none⟩ = some (F i j)

theorem Rows.below {w w' : World} {a : Option Addr} {len cap size : Nat} {F : Nat → Nat → Value} (h : Rows w a len cap size F) (hb : Below w.heap.size w w') : Rows w' a len cap size F :=
  ⟨h.le, h.max, h.nil, fun i j hi hj => by
    obtain ⟨b, off, e, hlt, hc⟩ := h.cell i j hi hj
    exact ⟨b, off, e, Nat.lt_of_lt_of_le hlt hb.size, (hb.cell (p := ⟨b, off + (i * size + j), none⟩) hlt).trans hc⟩⟩

section
variable {H : Type} {enc : TypeId × Value → H} {P : Program} {w : World} {base : Nat} {spare : Nat → Bool} {held : Bool}
theorem open_rows {t e : TypeId} {fuel : Nat} {cs : List Value} {x : DataW H × List MemPlace} (ht : P.underlying t = some (.slice e)) (h : DataW.trod enc P w base spare held fuel t cs = some x) :
    ∃ (a : Option Addr) (len cap : Nat) (F : Nat → Nat → Value), cs = [.slice a len cap] ∧ Rows w a len cap (P.cellsOf e) F ∧
      ∀ i, i < len → ∃ (n : Nat) (y : DataW H × List MemPlace), DataW.trod enc P w base spare held n e ((List.range (P.cellsOf e)).map (F i)) = some y := by
  rcases open_slice ht h with ⟨h0, _⟩ | ⟨a, len, cap, m, n, D, Pl, hcs, hb, hl, hm, hmm, hx, hi⟩
  · exact ⟨none, 0, 0, fun _ _ => undef, h0, ⟨Nat.le_refl _, by decide, fun _ => ⟨rfl, rfl⟩, fun i j h => absurd h (by omega)⟩, fun i h => absurd h (by omega)⟩
  · have hlm : len ≤ m := by rw [hmm]; split <;> omega
    have hE : ∀ i, ∃ E : List Value, i < m → w.cells? base (a.add (i * P.cellsOf e)) (P.cellsOf e) = some E ∧ DataW.trod enc P w base spare held n e E = some (D i, Pl i) := fun i => by
      by_cases him : i < m
      · obtain ⟨E, h1, h2⟩ := hi i him
        exact ⟨E, fun _ => ⟨h1, h2⟩⟩
      · exact ⟨[], fun h => absurd h him⟩
    obtain ⟨E, hE⟩ := Classical.axiomOfChoice hE
    refine ⟨some a, len, cap, fun i j => (E i)[j]?.getD undef, hcs, ⟨hl, by simpa [maxLen] using hm, fun e => (by cases e), fun i j hil hj => ?_⟩, fun i hil => ?_⟩
    · obtain ⟨h1, h2⟩ := hE i (by omega)
      obtain ⟨_, hcl, hat⟩ := World.cells?_some h1
      have hc := hat j hj
      rw [List.getElem?_eq_getElem (by omega)] at hc
      have hsp : a.spot = none := by
        obtain ⟨g1, _⟩ := hE 0 (by omega)
        obtain ⟨_, gcl, gat⟩ := World.cells?_some g1
        have gc := gat 0 (by omega)
        rw [List.getElem?_eq_getElem (by omega)] at gc
        have := World.cell?_spot gc
        simpa [Addr.add] using this
      obtain ⟨b, off, spot⟩ := a
      simp only at hsp
      subst hsp
      have hc2 : w.cell? ⟨b, off + (i * P.cellsOf e + j), none⟩ = some ((E i)[j]'(by omega)) := by
        rw [← hc, Go.Deep.add_add]
        unfold Addr.add
        by_cases h0 : i * P.cellsOf e + j = 0
        · rw [if_pos h0, h0]; rfl
        · rw [if_neg h0]
      refine ⟨b, off, rfl, World.block_lt_of_cell? w _ hc2, ?_⟩
      rw [hc2, List.getElem?_eq_getElem (by omega)]
      rfl
    · obtain ⟨h1, h2⟩ := hE i (by omega)
      obtain ⟨_, hcl, _⟩ := World.cells?_some h1
      refine ⟨n, (D i, Pl i), ?_⟩
      have : (List.range (P.cellsOf e)).map (fun j => (E i)[j]?.getD undef) = E i := by
        apply List.ext_getElem?
        intro j
        by_cases hj : j < P.cellsOf e
        · simp [hj]
          rw [List.getElem?_eq_getElem (by omega)]
          rfl
        · simp [hj]
          omega
      rw [this]
      exact h2
/-- a field of one cell of a struct of such -/
theorem field_of {e : TypeId} {fs : Array Field} {n : Nat} {F : Nat → Value} {y : DataW H × List MemPlace} (he : P.underlying e = some (.struct fs)) (hone : oneCellFields P fs = true) (hC : P.cellsOf e = fs.size)
    (h : DataW.trod enc P w base spare held n e ((List.range (P.cellsOf e)).map F) = some y) (j : Nat) (f : Field) (hj : fs[j]? = some f) : ∃ (m : Nat) (z : DataW H × List MemPlace), DataW.trod enc P w base spare held m f.type [F j] = some z := by
  obtain ⟨xs, m, _, _, _, hlen, hf⟩ := DataW.trod_struct he h
  obtain ⟨ho, hk⟩ := hone_of hone j f hj
  have hjl : j < fs.size := (Array.getElem?_eq_some_iff.1 hj).1
  have h1 := hf j f hj
  rw [ho, hk] at h1
  have h2 : (((List.range (P.cellsOf e)).map F).drop j).take 1 = [F j] := by
    rw [List.drop_eq_getElem_cons (by simp; omega)]
    simp
  rw [h2, List.getElem?_eq_getElem (by omega)] at h1
  exact ⟨m, _, h1⟩
/-- a struct that came in by value -/
theorem open_agg {r : Reach} {b0 : Nat} {t : TypeId} {fs : Array Field} {v : Value} {d : DataW H} {p : List MemPlace} (hs : P.underlying t = some (.struct fs)) (hone : oneCellFields P fs = true) (hC : P.cellsOf t = fs.size)
    (hv : Value.okWide P w r b0 t v) (h : DataW.Trod enc P w base spare held t v d p) :
    ∃ F : Nat → Value, v = .agg ((Array.range fs.size).map F) ∧ ∀ (j : Nat) (f : Field), fs[j]? = some f → ∃ (m : Nat) (z : DataW H × List MemPlace), DataW.trod enc P w base spare held m f.type [F j] = some z := by
  obtain ⟨cs, rfl, hsz⟩ := okWide_struct hs hv
  obtain ⟨fuel, hf⟩ := h
  have hcs : cs.toList = (List.range (P.cellsOf t)).map (fun j => cs.toList[j]?.getD undef) := by
    apply List.ext_getElem?
    intro j
    by_cases hj : j < cs.size
    · rw [List.getElem?_eq_getElem (by simpa using hj)]
      simp [show j < P.cellsOf t by omega, hj]
    · simp [show ¬ j < P.cellsOf t by omega, hj]
  have hf2 : DataW.trod enc P w base spare held fuel t cs.toList = some (d, p) := by simpa [Value.cells] using hf
  rw [hcs] at hf2
  refine ⟨fun j => cs.toList[j]?.getD undef, ?_, fun j f hj => field_of hs hone hC hf2 j f hj⟩
  congr 1
  apply Array.ext'
  rw [Array.toList_map, Array.toList_range, ← hC]
  exact hcs
end
section
variable {H : Type} {enc : TypeId × Value → H} {P : Program} {w : World} {base : Nat} {spare : Nat → Bool} {held : Bool} {t e : TypeId} {m : Nat} {V : Value} {z : DataW H × List MemPlace}
theorem rd_int {k : IntKind} (ht : P.underlying t = some (.int k)) (h : DataW.trod enc P w base spare held m t [V] = some z) : ∃ n : Int, V = .int k n ∧ (Lit.int k n).wf = true := by
  obtain ⟨n, hx, _, wx⟩ := DataW.trod_int ht h
  exact ⟨n, by simpa using hx, wx⟩
theorem rd_bool (ht : P.underlying t = some .bool) (h : DataW.trod enc P w base spare held m t [V] = some z) : ∃ b : Bool, V = .bool b := by
  obtain ⟨b, hx, _⟩ := DataW.trod_bool ht h
  exact ⟨b, by simpa using hx⟩
theorem rd_string (ht : P.underlying t = some .string) (h : DataW.trod enc P w base spare held m t [V] = some z) : ∃ s : ByteArray, V = .string s ∧ s.size ≤ maxLen := by
  obtain ⟨s, hx, _, hs⟩ := DataW.trod_string ht h
  exact ⟨s, by simpa using hx, hs⟩
theorem rd_slice (C : Nat) (Q : (Nat → Value) → Prop) (ht : P.underlying t = some (.slice e)) (hC : P.cellsOf e = C) (h : DataW.trod enc P w base spare held m t [V] = some z)
    (hQ : ∀ (F : Nat → Value) (n : Nat) (y : DataW H × List MemPlace), DataW.trod enc P w base spare held n e ((List.range (P.cellsOf e)).map F) = some y → Q F) :
    ∃ (a : Option Addr) (len cap : Nat) (F : Nat → Nat → Value), V = .slice a len cap ∧ Rows w a len cap C F ∧ ∀ i, i < len → Q (F i) := by
  obtain ⟨a, len, cap, F, hv, hR, hE⟩ := open_rows ht h
  refine ⟨a, len, cap, F, by simpa using hv, hC ▸ hR, fun i hi => ?_⟩
  obtain ⟨n, y, hy⟩ := hE i hi
  exact hQ _ n y hy
theorem rd_one (Q : Prop) {F : Nat → Value} (hC : P.cellsOf e = 1) (h : DataW.trod enc P w base spare held m e ((List.range (P.cellsOf e)).map F) = some z) (hQ : DataW.trod enc P w base spare held m e [F 0] = some z → Q) : Q := by
  rw [hC] at h
  exact hQ h
theorem rd_field (Q : Prop) {fs : Array Field} {F : Nat → Value} (he : P.underlying e = some (.struct fs)) (hone : oneCellFields P fs = true) (hC : P.cellsOf e = fs.size)
    (h : DataW.trod enc P w base spare held m e ((List.range (P.cellsOf e)).map F) = some z) (j : Nat) (f : Field) (hj : fs[j]? = some f)
    (hQ : ∀ (n : Nat) (y : DataW H × List MemPlace), DataW.trod enc P w base spare held n f.type [F j] = some y → Q) : Q := by
  obtain ⟨n, y, hy⟩ := field_of he hone hC h j f hj
  exact hQ n y hy
/-- a slice takes no more than the reach -/
theorem len_sized {t e : TypeId} {a : Option Addr} {len cap : Nat} {d : DataW H} {ps : List MemPlace} {ts : List TypeId} {ds : List (DataW H)} (hu : P.underlying t = some (.slice e)) (h : DataW.Trod enc P w base spare held t (.slice a len cap) d ps)
    (hsz : (DataW.weightsEach P ts ds).all (· ≤ reachBytes) = true) (j : Nat) (ht : ts[j]? = some t) (hd : ds[j]? = some d) : len * P.bytesOf e ≤ 140737488351232 := by
  obtain ⟨fuel, hf⟩ := h
  have hf2 : DataW.trod enc P w base spare held fuel t [.slice a len cap] = some (d, ps) := by simpa [Value.cells] using hf
  rcases open_slice hu hf2 with ⟨h0, _⟩ | ⟨a', len', cap', m, n, D, Pl, hcs, _, _, _, _, hx, _⟩
  · simp at h0
    rw [h0.2.1, Nat.zero_mul]
    exact Nat.zero_le _
  · simp at hcs
    obtain ⟨_, rfl, _⟩ := hcs
    simp only [Prod.mk.injEq] at hx
    rw [hx.1] at hd
    have h1 := sized_slice hsz ht hd hu
    rw [List.length_map, List.length_range] at h1
    have h2 : len * P.bytesOf e ≤ (len + ((List.range (m - len)).map fun j => D (len + j)).length) * P.bytesOf e := Nat.mul_le_mul_right _ (Nat.le_add_right _ _)
    exact Nat.le_trans h2 (Nat.le_trans h1 (by decide))
/-- functions for what stands at each place -/
theorem pick {α : Type} [Inhabited α] {len : Nat} {Q : Nat → α → Prop} (h : ∀ i, i < len → ∃ x, Q i x) : ∃ f : Nat → α, ∀ i, i < len → Q i (f i) :=
  ⟨fun i => if hi : i < len then (h i hi).choose else default, fun i hi => by simp only [dif_pos hi]; exact (h i hi).choose_spec⟩
end
end Go.Proofs.Ytfiddodlpppdhaa

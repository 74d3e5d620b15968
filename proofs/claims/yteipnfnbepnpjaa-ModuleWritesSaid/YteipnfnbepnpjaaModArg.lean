/- a module that came in: what a walk is told of it. -/
import Derived.Test.YteipnfnbepnpjaaModModel
import Derived.Test.YteipnfnbepnpjaaOpen
namespace Go.Proofs.Yteipnfnbepnpjaa
open Go.RowKit Go.Maps
set_option linter.unusedVariables false
def ModArg (w : World) (F : Nat → Value) : Prop := ((∃ n : Int, F 0 = .int .i64 n ∧ (Lit.int .i64 n).wf = true) ∧ (∃ (a : Option Addr) (len cap : Nat) (F0 : Nat → Nat → Value), F 1 = .slice a len cap ∧ Rows w a len cap 3 F0 ∧ ∀ i, i < len → ((∃ b : Bool, (F0 i) 0 = .bool b) ∧ (∃ n : Int, (F0 i) 1 = .int .i64 n ∧ (Lit.int .i64 n).wf = true) ∧ (∃ s : ByteArray, (F0 i) 2 = .string s ∧ s.size ≤ maxLen))) ∧ (∃ (a : Option Addr) (len cap : Nat) (F0 : Nat → Nat → Value), F 2 = .slice a len cap ∧ Rows w a len cap 3 F0 ∧ ∀ i, i < len → ((∃ n : Int, (F0 i) 0 = .int .i64 n ∧ (Lit.int .i64 n).wf = true) ∧ (∃ n : Int, (F0 i) 1 = .int .i64 n ∧ (Lit.int .i64 n).wf = true) ∧ (∃ (a : Option Addr) (len cap : Nat) (F1 : Nat → Nat → Value), (F0 i) 2 = .slice a len cap ∧ Rows w a len cap 1 F1 ∧ ∀ i, i < len → (∃ n : Int, (F1 i) 0 = .int .u8 n ∧ (Lit.int .u8 n).wf = true)))) ∧ (∃ (a : Option Addr) (len cap : Nat) (F0 : Nat → Nat → Value), F 3 = .slice a len cap ∧ Rows w a len cap 2 F0 ∧ ∀ i, i < len → ((∃ n : Int, (F0 i) 0 = .int .i64 n ∧ (Lit.int .i64 n).wf = true) ∧ (∃ n : Int, (F0 i) 1 = .int .i64 n ∧ (Lit.int .i64 n).wf = true))))
theorem Rows.congr {w : World} {a : Option Addr} {len cap size : Nat} {F G : Nat → Nat → Value} (h : Rows w a len cap size F) (e : ∀ i j, i < len → j < size → F i j = G i j) : Rows w a len cap size G :=
  ⟨h.le, h.max, h.nil, fun i j hi hj => by
    obtain ⟨b, off, e1, e2, e3⟩ := h.cell i j hi hj
    exact ⟨b, off, e1, e2, by rw [e3, e i j hi hj]⟩⟩
theorem wf_i64 {n : Int} (h : (Lit.int .i64 n).wf = true) : -9223372036854775808 ≤ n ∧ n < 9223372036854775808 := by
  simp [Lit.wf, IntKind.min, IntKind.max, IntKind.signed, IntKind.bits] at h
  omega
theorem wf_u8 {n : Int} (h : (Lit.int .u8 n).wf = true) : 0 ≤ n ∧ n < 256 := by
  simp [Lit.wf, IntKind.min, IntKind.max, IntKind.signed, IntKind.bits] at h
  omega
/-- bytes out of cells -/
theorem holds_of {w : World} {a : Option Addr} {len cap : Nat} {F : Nat → Nat → Value} (h : Rows w a len cap 1 F) (hb : ∀ i, i < len → (∃ n : Int, (F i) 0 = .int .u8 n ∧ (Lit.int .u8 n).wf = true)) : ∃ l : List Nat, HoldsB w a len cap l := by
  have hb2 : ∀ i, i < len → ∃ y : Nat, F i 0 = .int .u8 (y : Nat) ∧ y < 256 := fun i hi => by
    obtain ⟨n, e, hw⟩ := hb i hi
    have := wf_u8 hw
    exact ⟨n.toNat, by rw [e]; congr 1; omega, by omega⟩
  obtain ⟨f, hf⟩ := pick hb2
  refine ⟨(List.range len).map f, by simp, h.le, h.max, fun e => (h.nil e).2, fun i y hy => ?_, fun y hy => ?_⟩
  · have hi : i < len := by have := (List.getElem?_eq_some_iff.1 hy).1; simpa using this
    obtain ⟨b, off, e1, e2, e3⟩ := h.cell i 0 hi (by omega)
    rw [Nat.mul_one, Nat.add_zero, (hf i hi).1] at e3
    rw [List.getElem?_map, List.getElem?_range hi] at hy
    cases hy
    exact ⟨b, off, e1, e2, e3⟩
  · obtain ⟨i, hi, rfl⟩ := List.mem_map.1 hy
    exact (hf i (List.mem_range.1 hi)).2
theorem map_get {α : Type} (f : Nat → α) {n i : Nat} (h : i < n) : ((List.range n).map f)[i]? = some (f i) := by rw [List.getElem?_map, List.getElem?_range h]; rfl
theorem ams_of {w : World} {F : Nat → Value} (h : ModArg w F) : ∃ m : AM, AMS w m (.agg #[F 0, F 1, F 2, F 3]) ∧ ∀ c ∈ m.cs, -9223372036854775808 ≤ c.2.1 ∧ c.2.1 < 9223372036854775808 := by
  obtain ⟨⟨G, hG, _⟩, ⟨a1, n1, c1, F1, h1, r1, t1⟩, ⟨a2, n2, c2, F2, h2, r2, t2⟩, ⟨a3, n3, c3, F3, h3, r3, t3⟩⟩ := h
  have u1 : ∀ i, i < n1 → ∃ c : ConT, F1 i 0 = .bool c.1 ∧ F1 i 1 = .int .i64 c.2.1 ∧ F1 i 2 = .string c.2.2 ∧ -9223372036854775808 ≤ c.2.1 ∧ c.2.1 < 9223372036854775808 := fun i hi => by
    obtain ⟨⟨b, e1⟩, ⟨z, e2, hz⟩, s, e3, _⟩ := t1 i hi
    exact ⟨(b, z, s), e1, e2, e3, wf_i64 hz⟩
  have u2 : ∀ i, i < n2 → ∃ c : FunT × Option Addr × Nat, F2 i 0 = .int .i64 c.1.1 ∧ F2 i 1 = .int .i64 c.1.2.1 ∧ F2 i 2 = .slice c.2.1 c.1.2.2.length c.2.2 ∧ HoldsB w c.2.1 c.1.2.2.length c.2.2 c.1.2.2 := fun i hi => by
    obtain ⟨⟨p, e1, _⟩, ⟨z, e2, hz⟩, a, len, cap, G1, e3, rr, tt⟩ := t2 i hi
    obtain ⟨l, hl⟩ := holds_of rr tt
    have := hl.eq
    subst this
    exact ⟨((p, z, l), a, cap), e1, e2, e3, hl⟩
  have u3 : ∀ i, i < n3 → ∃ c : ClsT, F3 i 0 = .int .i64 c.1 ∧ F3 i 1 = .int .i64 c.2 := fun i hi => by
    obtain ⟨⟨p, e1, _⟩, ⟨z, e2, hz⟩⟩ := t3 i hi
    exact ⟨(p, z), e1, e2⟩
  obtain ⟨f1, g1⟩ := pick u1
  obtain ⟨f2, g2⟩ := pick u2
  obtain ⟨f3, g3⟩ := pick u3
  refine ⟨⟨G, (List.range n1).map f1, (List.range n2).map fun i => (f2 i).1, (List.range n3).map f3⟩, ⟨⟨a1, c1, a2, c2, a3, c3, fun i => (f2 i).2.1, fun i => (f2 i).2.2, ?_, ⟨?_, ?_, ?_⟩, ?_⟩⟩, ?_⟩
  · rw [hG, h1, h2, h3]; simp [modXV, AM.x]
  · show Rows w a1 ((List.range n1).map f1).length c1 3 _
    rw [List.length_map, List.length_range]
    refine r1.congr fun i j hi hj => ?_
    obtain ⟨e1, e2, e3, _⟩ := g1 i hi
    rcases (by omega : j = 0 ∨ j = 1 ∨ j = 2) with rfl | rfl | rfl <;> simp [ModX.cF, AM.x, List.getElem?_range hi, e1, e2, e3]
  · show Rows w a2 ((List.range n2).map fun i => (f2 i).1).length c2 3 _
    rw [List.length_map, List.length_range]
    refine r2.congr fun i j hi hj => ?_
    obtain ⟨e1, e2, e3, _⟩ := g2 i hi
    rcases (by omega : j = 0 ∨ j = 1 ∨ j = 2) with rfl | rfl | rfl <;> simp [ModX.fF, AM.x, List.getElem?_range hi, e1, e2, e3]
  · show Rows w a3 ((List.range n3).map f3).length c3 2 _
    rw [List.length_map, List.length_range]
    refine r3.congr fun i j hi hj => ?_
    obtain ⟨e1, e2⟩ := g3 i hi
    rcases (by omega : j = 0 ∨ j = 1) with rfl | rfl <;> simp [ModX.kF, AM.x, List.getElem?_range hi, e1, e2]
  · intro i f hf
    have hi : i < n2 := by have := (List.getElem?_eq_some_iff.1 hf).1; simpa using this
    have hf2 : ((List.range n2).map fun i => (f2 i).1)[i]? = some f := hf
    rw [map_get _ hi] at hf2
    cases hf2
    exact (g2 i hi).2.2.2
  · intro c hc
    obtain ⟨i, hi, rfl⟩ := List.mem_map.1 hc
    exact (g1 i (List.mem_range.1 hi)).2.2.2
end Go.Proofs.Yteipnfnbepnpjaa

/- Plain: a module that may be has what its writing asks. -/
import Derived.Test.YteipnfnbepnpjaaModLawS
namespace Go.Proofs.Yteipnfnbepnpjaa
open Go.RowKit
set_option linter.unusedVariables false
theorem right_parts {x : ModX} (h : x.rightE = 0) : x.sizedB = true ∧ x.n2 ≠ 0 ∧ allN x.eOk x.n3 = true ∧ allN x.tOk x.n1 = true := by
  cases h1 : x.sizedB with
  | false => rw [right_9 h1] at h; exact absurd h (by decide)
  | true =>
    by_cases h2 : x.n2 = 0
    · rw [right_12 h1 h2] at h; exact absurd h (by decide)
    · cases h3 : allN x.eOk x.n3 with
      | false => rw [right_12b h1 h2 h3] at h; exact absurd h (by decide)
      | true =>
        cases h4 : allN x.tOk x.n1 with
        | false => rw [right_1 h1 h2 h3 h4] at h; exact absurd h (by decide)
        | true => exact ⟨rfl, h2, rfl, rfl⟩
theorem sized_parts {x : ModX} (h : x.sizedB = true) : x.base = true ∧ allN x.cOk x.n1 = true ∧ allN x.fOk x.n2 = true ∧ allN x.kOk x.n3 = true := by
  unfold ModX.sizedB at h
  simp only [Bool.and_eq_true] at h
  exact ⟨h.1.1.1, h.1.1.2, h.1.2, h.2⟩
theorem mem_at {α : Type} {l : List α} {x : α} (h : x ∈ l) : ∃ i, i < l.length ∧ l[i]? = some x := by
  obtain ⟨i, hi, e⟩ := List.getElem_of_mem h
  exact ⟨i, hi, by rw [List.getElem?_eq_getElem hi, e]⟩
theorem amok {m : AM} (h : m.rightE = 0) (hz : ∀ c ∈ m.cs, -9223372036854775808 ≤ c.2.1 ∧ c.2.1 < 9223372036854775808) : AMok m := by
  obtain ⟨h1, h2, h3, h4⟩ := right_parts (x := m.x 0 0 0 (fun _ => none) (fun _ => 0)) h
  obtain ⟨g1, g2, g3, g4⟩ := sized_parts h1
  refine ⟨(base_true g1).1, fun c hc => ?_, fun f hf => ?_, fun k hk => ?_⟩
  · obtain ⟨i, hi, e⟩ := mem_at hc
    have := (allN_iff _ _).1 h4 i hi
    have ht : (if c.1 = true then decide (c.2.1 = 0) else decide (c.2.2.size = 0)) = true := by simpa [ModX.tOk, AM.x, e] using this
    refine ⟨fun hb => ?_, fun hb => ⟨?_, hz c hc⟩⟩
    · rw [if_pos hb] at ht; exact of_decide_eq_true ht
    · rw [if_neg (by rw [hb]; simp)] at ht; exact of_decide_eq_true ht
  · obtain ⟨i, hi, e⟩ := mem_at hf
    have := (allN_iff _ _).1 g3 i hi
    simp [ModX.fOk, AM.x, e] at this
    omega
  · obtain ⟨i, hi, e⟩ := mem_at hk
    have ha := (allN_iff _ _).1 g4 i hi
    have hb := (allN_iff _ _).1 h3 i hi
    simp [ModX.kOk, AM.x, e] at ha
    simp [ModX.eOk, ModX.endB, AM.x, e] at hb
    omega
end Go.Proofs.Yteipnfnbepnpjaa

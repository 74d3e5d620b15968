/- plain facts for the law PagesPlay: the table's runs and the reference's list say the same. -/
import Derived.Test.YtogifanooleppaaPagesApartMath
import Derived.Test.YtogifanooleppaaRefGive
namespace Go.Proofs.Ytogifanooleppaa
open Go.RowKit Go.Maps
set_option linter.unusedVariables false

/-- a table and a list say the same -/
structure Same (n : Nat) (T : Nat → Option RunT) (l : List RunT) : Prop where
  has : ∀ i r, T i = some r ↔ (r ∈ l ∧ r.1 ≤ i ∧ i < r.1 + r.2.1)
  ok : ∀ r ∈ l, 1 ≤ r.1 ∧ 1 ≤ r.2.1 ∧ r.1 + r.2.1 ≤ n
  first : l.Pairwise (fun a b => a.1 ≠ b.1)
  sum : freeT n T + sumN l = n - 1
theorem Same.nil {n : Nat} (hn : 1 ≤ n) : Same n (fun _ => none) [] := by
  refine ⟨fun i r => (by simp), (fun _ h => by cases h), List.Pairwise.nil, ?_⟩
  have := upT_free (n := n) (i := 1) (Nat.le_refl _) hn
  rw [upT_one] at this
  simp only [sumN]
  omega
theorem inRun_iff {r : RunT} {i : Nat} : inRun r (i : Int) = true ↔ r.1 ≤ i ∧ i < r.1 + r.2.1 := by
  unfold inRun
  rw [Bool.and_eq_true, decide_eq_true_iff, decide_eq_true_iff]
  omega
theorem refOf_none {x : Int} : ∀ {l : List RunT}, (∀ r ∈ l, inRun r x = false) → refOf x l = (0, 0, 0)
  | [], _ => rfl
  | r :: l, h => by
    unfold refOf
    rw [h r (by simp), if_neg (by simp)]
    exact refOf_none fun r hr => h r (by simp [hr])
theorem refOf_some {x : Int} {r : RunT} : ∀ {l : List RunT}, r ∈ l → inRun r x = true → (∀ r' ∈ l, inRun r' x = true → r' = r) → refOf x l = r
  | [], h, _, _ => by cases h
  | y :: l, h, hx, hu => by
    unfold refOf
    by_cases hy : inRun y x = true
    · rw [if_pos hy]; exact hu y (by simp) hy
    · rw [if_neg hy]
      rcases List.mem_cons.1 h with rfl | h
      · exact absurd hx hy
      · exact refOf_some h hx fun r' hr => hu r' (by simp [hr])
section
variable {n : Nat} {T : Nat → Option RunT} {l : List RunT}
theorem Same.of_nat (h : Same n T l) (i : Nat) : refOf (i : Int) l = (T i).getD (0, 0, 0) := by
  cases hT : T i with
  | none =>
    refine refOf_none fun r hr => ?_
    by_cases hi : inRun r (i : Int) = true
    · have := (h.has i r).2 ⟨hr, inRun_iff.1 hi⟩
      rw [hT] at this
      cases this
    · simpa using hi
  | some r =>
    obtain ⟨h1, h2⟩ := (h.has i r).1 hT
    refine refOf_some h1 (inRun_iff.2 h2) fun r' hr' hx => ?_
    have := (h.has i r').2 ⟨hr', inRun_iff.1 hx⟩
    rw [hT] at this
    exact (Option.some.inj this).symm
theorem Same.of (h : Same n T l) (x : Int) : refOf x l = ofT T x := by
  unfold ofT
  by_cases hx : 0 ≤ x
  · obtain ⟨i, rfl⟩ : ∃ i : Nat, x = i := ⟨x.toNat, by omega⟩
    rw [if_pos hx, Int.toNat_natCast]
    exact h.of_nat i
  · rw [if_neg hx]
    refine refOf_none fun r _ => ?_
    unfold inRun
    rw [decide_eq_false (by omega)]
    rfl
theorem Same.used (h : Same n T l) (i : Nat) : refUsed l (i : Int) = usedB T i := by
  unfold refUsed usedB
  rw [h.of_nat i]
  have e : ((i : Int) == 0) = (i == 0) := by
    by_cases hi : i = 0
    · subst hi; rfl
    · rw [beq_eq_false_iff_ne.2 hi, beq_eq_false_iff_ne.2 (by omega)]
  rw [e]
  congr 1
  cases hT : T i with
  | none => rfl
  | some r =>
    obtain ⟨h1, h2⟩ := (h.has i r).1 hT
    simp only [Option.getD_some, Option.isSome_some, decide_eq_true_iff]
    omega
theorem Same.take (h : Same n T l) {K r : Nat} (mk : Int) (hr : RunIs n (usedB T) K (r : Int)) (hK : 1 ≤ K) : Same n (putT T r K mk K) (l ++ [(r, K, mk)]) := by
  obtain ⟨r1, r2, r3⟩ := run_ge hr hK
  obtain ⟨f1, f2⟩ := free_put hr hK mk
  have hs : ∀ l : List RunT, sumN (l ++ [(r, K, mk)]) = sumN l + K := by
    intro l
    induction l with
    | nil => simp [sumN]
    | cons y l ih => simp only [List.cons_append, sumN, ih]; omega
  refine ⟨fun i y => ?_, fun y hy => ?_, ?_, by rw [hs]; have := h.sum; omega⟩
  · unfold putT
    rw [List.mem_append, List.mem_singleton]
    by_cases hi : r ≤ i ∧ i < r + K
    · rw [if_pos hi]
      constructor
      · intro e
        cases e
        exact ⟨.inr rfl, hi⟩
      · rintro ⟨hy | rfl, h2⟩
        · have := (h.has i y).2 ⟨hy, h2⟩
          rw [r3 i hi.1 hi.2] at this
          cases this
        · rfl
    · rw [if_neg hi, h.has i y]
      constructor
      · rintro ⟨h1, h2⟩; exact ⟨.inl h1, h2⟩
      · rintro ⟨h1 | rfl, h2⟩
        · exact ⟨h1, h2⟩
        · exact absurd h2 hi
  · rw [List.mem_append, List.mem_singleton] at hy
    rcases hy with hy | rfl
    · exact h.ok y hy
    · exact ⟨r1, hK, r2⟩
  · rw [List.pairwise_append]
    refine ⟨h.first, List.pairwise_singleton _ _, fun a ha b hb e => ?_⟩
    cases List.mem_singleton.1 hb
    obtain ⟨o1, o2, o3⟩ := h.ok a ha
    have e' : a.1 = r := e
    have := (h.has a.1 a).2 ⟨ha, Nat.le_refl _, by omega⟩
    rw [e', r3 r (Nat.le_refl _) (by omega)] at this
    cases this
theorem Same.run_mem (h : Same n T l) {r : RunT} (hr : r ∈ l) : ∀ j, r.1 ≤ j → j < r.1 + r.2.1 → T j = some r := fun j h1 h2 => (h.has j r).2 ⟨hr, h1, h2⟩
theorem Same.no (h : Same n T l) {x : Int} (hx : ∀ r ∈ l, (r.1 : Int) ≠ x) : canGive T x = false ∧ givenT T x = T := by
  unfold canGive givenT
  cases hT : atT T x with
  | none => exact ⟨rfl, rfl⟩
  | some r =>
    dsimp only
    unfold atT at hT
    split at hT
    · obtain ⟨h1, _⟩ := (h.has _ r).1 hT
      exact ⟨decide_eq_false (hx r h1), if_neg (hx r h1)⟩
    · cases hT
theorem Same.yes (h : Same n T l) {x : Int} {i : Nat} {r : RunT} (hi : l[i]? = some r) (hx : (r.1 : Int) = x) : canGive T x = true ∧ Same n (givenT T x) (l.take i ++ l.drop (i + 1)) := by
  have hr := List.mem_of_getElem? hi
  obtain ⟨a, k, mk⟩ := r
  obtain ⟨o1, o2, o3⟩ := h.ok _ hr
  have hrun := h.run_mem hr
  dsimp only at hx o1 o2 o3 hrun
  have ha : atT T x = some (a, k, mk) := by
    unfold atT
    rw [if_pos (by omega), ← hx, Int.toNat_natCast]
    exact hrun a (Nat.le_refl _) (by omega)
  have hg : givenT T x = cutT T a k := by
    unfold givenT
    rw [ha]
    exact if_pos hx
  refine ⟨by unfold canGive; rw [ha]; exact decide_eq_true hx, ?_⟩
  rw [hg]
  have hl : l = l.take i ++ (a, k, mk) :: l.drop (i + 1) := by
    have hlt := (List.getElem?_eq_some_iff.1 hi).1
    have e := List.take_append_drop i l
    rw [List.drop_eq_getElem_cons hlt] at e
    have e2 : l[i] = (a, k, mk) := by rw [List.getElem?_eq_getElem hlt] at hi; exact Option.some.inj hi
    rw [e2] at e
    exact e.symm
  generalize l.take i = A at hl ⊢
  generalize l.drop (i + 1) = C at hl ⊢
  subst hl
  have hfi := h.first
  rw [List.pairwise_append, List.pairwise_cons] at hfi
  obtain ⟨p1, ⟨p2, p3⟩, p4⟩ := hfi
  have hmem : ∀ y, y ∈ A ++ C → y ∈ A ++ (a, k, mk) :: C ∧ y ≠ (a, k, mk) := by
    intro y hy
    rw [List.mem_append] at hy
    rcases hy with hy | hy
    · exact ⟨by simp [hy], fun e => p4 y hy (a, k, mk) (by simp) (by rw [e])⟩
    · exact ⟨by simp [hy], fun e => p2 y hy (by rw [e])⟩
  have hmem2 : ∀ y, y ∈ A ++ (a, k, mk) :: C → y ≠ (a, k, mk) → y ∈ A ++ C := by
    intro y hy hne
    simp at hy ⊢
    rcases hy with hy | hy | hy
    · exact .inl hy
    · exact absurd hy hne
    · exact .inr hy
  have hput : putT (cutT T a k) a k mk k = T := by
    funext j
    unfold putT cutT
    by_cases hj : a ≤ j ∧ j < a + k
    · rw [if_pos hj, hrun j hj.1 hj.2]
    · rw [if_neg hj, if_neg hj]
  have hsum : sumN (A ++ (a, k, mk) :: C) = sumN (A ++ C) + k := by
    clear h hi hr p1 p2 p3 p4 hmem hmem2
    induction A with
    | nil => simp only [List.nil_append, sumN]; omega
    | cons y A ih => simp only [List.cons_append, sumN, ih]; omega
  have hfree : freeT n (cutT T a k) = freeT n T + k := by
    have hc : ∀ j, j ≤ k → cnt (usedB (putT (cutT T a k) a k mk j)) n = cnt (usedB (cutT T a k)) n + j := by
      intro j
      induction j with
      | zero => intro _; rw [putT_zero]; rfl
      | succ j ih =>
        intro hj
        have e : cnt (usedB (putT (cutT T a k) a k mk (j + 1))) n = cnt (fun i => if i = a + j then true else usedB (putT (cutT T a k) a k mk j) i) n := cnt_congr fun i _ => by
          unfold usedB putT
          by_cases h0 : i = a + j
          · rw [if_pos (by omega), if_pos h0]; simp
          · rw [if_neg h0]
            by_cases h1 : a ≤ i ∧ i < a + j
            · rw [if_pos (by omega), if_pos h1]
            · rw [if_neg (by omega), if_neg h1]
        rw [e, cnt_set (k := a + j) (by omega) (by
          unfold usedB putT cutT
          rw [if_neg (by omega), if_pos (by omega)]
          simp; omega), ih (by omega)]
        omega
    have h1 := hc k (Nat.le_refl _)
    rw [hput] at h1
    have h2 := cnt_le (usedB T) n
    unfold freeT
    omega
  refine ⟨fun j y => ?_, fun y hy => h.ok y (hmem y hy).1, ?_, by have := h.sum; rw [hsum] at this; omega⟩
  · unfold cutT
    by_cases hj : a ≤ j ∧ j < a + k
    · rw [if_pos hj]
      constructor
      · intro e; cases e
      · rintro ⟨hy, h2⟩
        have e1 := (h.has j y).2 ⟨(hmem y hy).1, h2⟩
        rw [hrun j hj.1 hj.2] at e1
        exact absurd (Option.some.inj e1).symm (hmem y hy).2
    · rw [if_neg hj, h.has j y]
      constructor
      · rintro ⟨h1, h2⟩
        exact ⟨hmem2 y h1 (fun e => hj (by rw [e] at h2; exact h2)), h2⟩
      · rintro ⟨h1, h2⟩
        exact ⟨(hmem y h1).1, h2⟩
  · rw [List.pairwise_append]
    exact ⟨p1, p3, fun x hx y hy => p4 x hx y (by simp [hy])⟩
theorem Same.free (h : Same n T l) : freeT n T = n - 1 - sumN l := by have := h.sum; omega
theorem Same.sum_le (h : Same n T l) : sumN l ≤ n - 1 := by have := h.sum; omega
end
end Go.Proofs.Ytogifanooleppaa

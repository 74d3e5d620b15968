/- plain facts of a heap of numbers in a list. -/
import Derived.Test.YtfiddodlpppdhaaMem
namespace Go.Proofs.Ytfiddodlpppdhaa
set_option linter.unusedVariables false

/-- two places changed -/
def swapL (l : List Int) (i j : Nat) : List Int := (l.set i (l[j]?.getD 0)).set j (l[i]?.getD 0)
theorem swapL_len (l : List Int) (i j : Nat) : (swapL l i j).length = l.length := by unfold swapL; simp
/-- the number at a place -/
def hg (l : List Int) (k : Nat) : Int := l[k]?.getD 0
theorem hg_some {l : List Int} {k : Nat} (h : k < l.length) : l[k]? = some (hg l k) := by unfold hg; rw [List.getElem?_eq_getElem h]; rfl
theorem hg_swap {l : List Int} {i j : Nat} (hi : i < l.length) (hj : j < l.length) (k : Nat) : hg (swapL l i j) k = if k = j then hg l i else if k = i then hg l j else hg l k := by
  unfold hg swapL
  rw [List.getElem?_set, List.getElem?_set, List.length_set]
  by_cases h1 : k = j
  · subst h1; rw [if_pos rfl, if_pos hj, if_pos rfl]; rfl
  · rw [if_neg (fun e => h1 e.symm), if_neg h1]
    by_cases h2 : k = i
    · subst h2; rw [if_pos rfl, if_pos hi, if_pos rfl]; rfl
    · rw [if_neg (fun e => h2 e.symm), if_neg h2]
theorem swapL_perm {l : List Int} {i j : Nat} (hi : i < l.length) (hj : j < l.length) : (swapL l i j).Perm l := by
  have h := Array.swap_perm (xs := l.toArray) (i := i) (j := j) (by simpa using hi) (by simpa using hj)
  rw [Array.perm_iff_toList_perm] at h
  have e : swapL l i j = (l.toArray.swap i j (by simpa using hi) (by simpa using hj)).toList := by
    unfold swapL
    rw [List.getElem?_eq_getElem hi, List.getElem?_eq_getElem hj]
    simp [Array.swap]
  rw [e]
  exact h
/-- the first n are a heap -/
def HeapN (l : List Int) (n : Nat) : Prop := ∀ k, 0 < k → k < n → hg l ((k - 1) / 2) ≤ hg l k
/-- a heap but for the place j, which is to go up -/
def UpInv (l : List Int) (j : Nat) : Prop := j < l.length ∧ (∀ k, 0 < k → k < l.length → k ≠ j → hg l ((k - 1) / 2) ≤ hg l k) ∧ (0 < j → ∀ k, 0 < k → k < l.length → (k - 1) / 2 = j → hg l ((j - 1) / 2) ≤ hg l k)
theorem UpInv.stop0 {l : List Int} (h : UpInv l 0) : HeapN l l.length := fun k h1 h2 => h.2.1 k h1 h2 (by omega)
theorem UpInv.stop {l : List Int} {j : Nat} (h : UpInv l j) (hs : ¬ hg l j < hg l ((j - 1) / 2)) : HeapN l l.length := fun k h1 h2 => by
  by_cases hk : k = j
  · subst hk; omega
  · exact h.2.1 k h1 h2 hk
theorem UpInv.step {l : List Int} {j : Nat} (h : UpInv l j) (h0 : 0 < j) (hs : hg l j < hg l ((j - 1) / 2)) : UpInv (swapL l ((j - 1) / 2) j) ((j - 1) / 2) := by
  obtain ⟨hj, i1, i2⟩ := h
  obtain ⟨i, hi⟩ : ∃ i, i = (j - 1) / 2 := ⟨_, rfl⟩
  rw [← hi] at hs ⊢
  have hij : i < j := by omega
  have hil : i < l.length := by omega
  refine ⟨by rw [swapL_len]; exact hil, fun k k1 k2 k3 => ?_, fun hi0 k k1 k2 k3 => ?_⟩
  · rw [swapL_len] at k2
    rw [hg_swap hil hj, hg_swap hil hj]
    by_cases a1 : k = j
    · subst a1
      rw [← hi, if_neg (by omega), if_pos rfl, if_pos rfl]
      omega
    · rw [if_neg a1, if_neg k3]
      by_cases a2 : (k - 1) / 2 = j
      · rw [if_pos a2]
        have := i2 h0 k k1 k2 a2
        rw [← hi] at this
        exact this
      · rw [if_neg a2]
        have := i1 k k1 k2 a1
        by_cases a3 : (k - 1) / 2 = i
        · rw [if_pos a3]; rw [a3] at this; omega
        · rw [if_neg a3]; exact this
  · rw [swapL_len] at k2
    have hp := i1 i hi0 hil (by omega)
    rw [hg_swap hil hj, hg_swap hil hj, if_neg (by omega), if_neg (by omega)]
    by_cases a1 : k = j
    · rw [if_pos a1]; exact hp
    · rw [if_neg a1, if_neg (by omega)]
      have := i1 k k1 k2 a1
      rw [k3] at this
      omega
/-- a heap of n but for the place i, which is to go down -/
def DownInv (l : List Int) (i n : Nat) : Prop := n ≤ l.length ∧ (∀ k, 0 < k → k < n → (k - 1) / 2 ≠ i → hg l ((k - 1) / 2) ≤ hg l k) ∧ (0 < i → ∀ k, 0 < k → k < n → (k - 1) / 2 = i → hg l ((i - 1) / 2) ≤ hg l k)
theorem DownInv.stop0 {l : List Int} {i n : Nat} (h : DownInv l i n) (hi : n ≤ 2 * i + 1) : HeapN l n := fun k h1 h2 => h.2.1 k h1 h2 (by omega)
/-- j is the lesser child of i -/
def Lesser (l : List Int) (i n j : Nat) : Prop := (j = 2 * i + 1 ∨ j = 2 * i + 2) ∧ j < n ∧ ∀ k, 0 < k → k < n → (k - 1) / 2 = i → hg l j ≤ hg l k
theorem DownInv.stop {l : List Int} {i n j : Nat} (h : DownInv l i n) (hc : Lesser l i n j) (hs : ¬ hg l j < hg l i) : HeapN l n := fun k h1 h2 => by
  by_cases hk : (k - 1) / 2 = i
  · have := hc.2.2 k h1 h2 hk
    rw [hk]
    omega
  · exact h.2.1 k h1 h2 hk
theorem DownInv.step {l : List Int} {i n j : Nat} (h : DownInv l i n) (hc : Lesser l i n j) (hs : hg l j < hg l i) : DownInv (swapL l i j) j n := by
  obtain ⟨hn, i1, i2⟩ := h
  obtain ⟨c1, c2, c3⟩ := hc
  have hi : i < l.length := by omega
  have hj : j < l.length := by omega
  refine ⟨by rw [swapL_len]; exact hn, fun k k1 k2 k3 => ?_, fun hj0 k k1 k2 k3 => ?_⟩
  · rw [hg_swap hi hj, hg_swap hi hj, if_neg k3]
    by_cases a1 : (k - 1) / 2 = i
    · rw [if_pos a1]
      by_cases a2 : k = j
      · rw [if_pos a2]; omega
      · rw [if_neg a2, if_neg (by omega)]
        exact c3 k k1 k2 a1
    · rw [if_neg a1, if_neg (by omega)]
      by_cases a2 : k = i
      · rw [if_pos a2]
        subst a2
        exact i2 k1 j (by omega) c2 (by omega)
      · rw [if_neg a2]; exact i1 k k1 k2 a1
  · rw [hg_swap hi hj, hg_swap hi hj, if_neg (by omega), if_pos (by omega), if_neg (by omega), if_neg (by omega)]
    have := i1 k k1 k2 (by omega)
    rw [k3] at this
    exact this
/-- the first one is the least -/
theorem HeapN.least {l : List Int} {n : Nat} (h : HeapN l n) : ∀ k, k < n → hg l 0 ≤ hg l k := by
  intro k
  induction k using Nat.strongRecOn with
  | ind k ih =>
    intro hk
    by_cases h0 : k = 0
    · subst h0; exact Int.le_refl _
    · have h1 := h k (by omega) hk
      have h2 := ih ((k - 1) / 2) (by omega) (by omega)
      omega
theorem HeapN.snoc {l : List Int} (h : HeapN l l.length) (x : Int) : UpInv (l ++ [x]) l.length := by
  have hl : ∀ k, k < l.length → hg (l ++ [x]) k = hg l k := fun k hk => by unfold hg; rw [List.getElem?_append_left hk]
  refine ⟨by simp, fun k k1 k2 k3 => ?_, fun h0 k k1 k2 k3 => ?_⟩
  · simp at k2
    rw [hl _ (by omega), hl _ (by omega)]
    exact h k k1 (by omega)
  · simp at k2; omega
theorem HeapN.popped {l : List Int} {n : Nat} (h : HeapN l l.length) (hn : l.length = n + 1) : DownInv (swapL l 0 n) 0 n := by
  refine ⟨by rw [swapL_len]; omega, fun k k1 k2 k3 => ?_, fun h0 => absurd h0 (by omega)⟩
  rw [hg_swap (by omega) (by omega), hg_swap (by omega) (by omega), if_neg (by omega), if_neg (by omega), if_neg (by omega), if_neg (by omega)]
  exact h k k1 (by omega)
theorem swapL_tail {l : List Int} {i j n : Nat} (hi : i < n) (hj : j < n) (hn : n ≤ l.length) : ∀ k, n ≤ k → hg (swapL l i j) k = hg l k := fun k hk => by
  rw [hg_swap (by omega) (by omega), if_neg (by omega), if_neg (by omega)]
theorem HeapN.take {l : List Int} {n : Nat} (h : HeapN l n) (hn : n ≤ l.length) : HeapN (l.take n) (l.take n).length := by
  intro k k1 k2
  simp at k2
  have e : ∀ k, k < n → hg (l.take n) k = hg l k := fun k hk => by unfold hg; rw [List.getElem?_take, if_pos hk]
  rw [e _ (by omega), e _ (by omega)]
  exact h k k1 (by omega)
theorem take_snoc {l : List Int} {n : Nat} (hn : l.length = n + 1) : l = l.take n ++ [hg l n] := by
  have h1 := List.take_append_drop n l
  have h2 : l.drop n = [hg l n] := by
    rw [List.drop_eq_getElem_cons (by omega)]
    rw [List.drop_eq_nil_of_le (by omega)]
    unfold hg
    rw [List.getElem?_eq_getElem (by omega)]
    rfl
  rw [h2] at h1
  exact h1.symm
end Go.Proofs.Ytfiddodlpppdhaa

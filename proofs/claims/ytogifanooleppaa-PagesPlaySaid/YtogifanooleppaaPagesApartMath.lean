/- plain facts for the law PagesApart. -/
import Derived.Test.YtogifanooleppaaPagesFillWalk
import Derived.Laws.BitsAllLaws
import Derived.Laws.BitsLemmas
namespace Go.Proofs.Ytogifanooleppaa
open Go.RowKit Go.Maps
set_option linter.unusedVariables false

theorem ofInt64 (a : Nat) (ha : a < 9223372036854775808) : (BitVec.ofInt 64 (a : Int)).toNat = a := by
  rw [BitVec.ofInt_natCast, BitVec.toNat_ofNat]; exact Nat.mod_eq_of_lt (by omega)
theorem and_low (x : Int) (m : Nat) (hm : m < 9223372036854775808) : ∃ v : Nat, bits .and .i64 x (m : Int) = v ∧ v ≤ m := by
  refine ⟨(BitVec.ofInt 64 x &&& BitVec.ofInt 64 (m : Int)).toNat, ?_, ?_⟩
  · show IntKind.i64.wrap ((BitVec.ofInt 64 x &&& BitVec.ofInt 64 (m : Int)).toNat : Int) = _
    have h : (BitVec.ofInt 64 x &&& BitVec.ofInt 64 (m : Int)).toNat ≤ m := by
      rw [BitVec.toNat_and, ofInt64 m hm]; exact Nat.and_le_right
    rw [IntKind.wrap_i64]; omega
  · rw [BitVec.toNat_and, ofInt64 m hm]; exact Nat.and_le_right
/-- a run that Take finds -/
theorem run_ge {n K r : Nat} {T : Nat → Option RunT} (h : RunIs n (usedB T) K (r : Int)) (hK : 1 ≤ K) : 1 ≤ r ∧ r + K ≤ n ∧ ∀ j, r ≤ j → j < r + K → T j = none := by
  rcases h with ⟨h, _⟩ | ⟨i, h, h2, h3⟩
  · omega
  · obtain rfl : r = i := by omega
    have hn : ∀ j, r ≤ j → j < r + K → usedB T j = false := h2.2
    refine ⟨?_, h2.1, fun j j1 j2 => ?_⟩
    · rcases Nat.eq_zero_or_pos r with rfl | q
      · have := hn 0 (Nat.le_refl _) (by omega)
        simp [usedB] at this
      · exact q
    · have := hn j j1 j2
      unfold usedB at this
      cases hT : T j with
      | none => rfl
      | some _ => rw [hT] at this; simp at this
theorem cnt_put {n K r : Nat} {T : Nat → Option RunT} (h : RunIs n (usedB T) K (r : Int)) (hK : 1 ≤ K) (mk : Int) : ∀ j, j ≤ K → cnt (usedB (putT T r K mk j)) n = cnt (usedB T) n + j := by
  obtain ⟨h1, h2, h3⟩ := run_ge h hK
  intro j
  induction j with
  | zero => intro _; rw [putT_zero]; rfl
  | succ j ih =>
    intro hj
    have e : cnt (usedB (putT T r K mk (j + 1))) n = cnt (fun i => if i = r + j then true else usedB (putT T r K mk j) i) n := cnt_congr fun i _ => by
      unfold usedB putT
      by_cases h0 : i = r + j
      · rw [if_pos (by omega), if_pos h0]; simp
      · rw [if_neg h0]
        by_cases h1 : r ≤ i ∧ i < r + j
        · rw [if_pos (by omega), if_pos h1]
        · rw [if_neg (by omega), if_neg h1]
    rw [e, cnt_set (k := r + j) (by omega) (by
      unfold usedB putT
      rw [if_neg (by omega), h3 (r + j) (by omega) (by omega)]
      simp; omega), ih (by omega)]
    omega
theorem free_put {n K r : Nat} {T : Nat → Option RunT} (h : RunIs n (usedB T) K (r : Int)) (hK : 1 ≤ K) (mk : Int) : freeT n (putT T r K mk K) + K = freeT n T ∧ K ≤ freeT n T := by
  have h1 := cnt_put h hK mk K (Nat.le_refl _)
  have h2 := cnt_le (usedB (putT T r K mk K)) n
  unfold freeT
  omega
/-- what was just taken is given back -/
theorem put_give {n K r : Nat} {T : Nat → Option RunT} (h : RunIs n (usedB T) K (r : Int)) (hK : 1 ≤ K) (mk : Int) : canGive (putT T r K mk K) (r : Int) = true ∧ givenT (putT T r K mk K) (r : Int) = T ∧ canGive T (r : Int) = false ∧ givenT T (r : Int) = T := by
  obtain ⟨h1, h2, h3⟩ := run_ge h hK
  have e : atT (putT T r K mk K) (r : Int) = some (r, K, mk) := by
    unfold atT putT
    rw [if_pos (by omega), Int.toNat_natCast, if_pos (by omega)]
  have e2 : atT T (r : Int) = none := by
    unfold atT
    rw [if_pos (by omega), Int.toNat_natCast, h3 r (Nat.le_refl _) (by omega)]
  refine ⟨by unfold canGive; rw [e]; simp, ?_, by unfold canGive; rw [e2], by unfold givenT; rw [e2]⟩
  unfold givenT
  rw [e]
  dsimp only
  rw [if_pos rfl]
  funext i
  unfold cutT putT
  by_cases hi : r ≤ i ∧ i < r + K
  · rw [if_pos hi, h3 i hi.1 hi.2]
  · rw [if_neg hi, if_neg hi]
theorem put_of {T : Nat → Option RunT} {r K j : Nat} (mk : Int) (hj : j < K) : ofT (putT T r K mk K) ((r + j : Nat) : Int) = (r, K, mk) := by
  unfold ofT putT
  rw [if_pos (by omega), Int.toNat_natCast, if_pos (by omega)]
  rfl
/-- whose a page is, as the law writes it down -/
def OwnAt (w : World) (b n : Nat) (z : Nat → Int) : Prop := ∃ cs ty, w.heap[b]? = some (.cells cs ty (0, 0)) ∧ cs.size = n ∧ ∀ i, i < n → cs[i]? = some (.int .i64 (z i))
section
variable {w w' : World} {b n : Nat} {z : Nat → Int}
theorem OwnAt.keeps {l : List Nat} (h : OwnAt w b n z) (k : Keeps l w w') (hb : b ∉ l) : OwnAt w' b n z := by
  obtain ⟨cs, ty, h1, h2⟩ := h
  exact ⟨cs, ty, k.at h1 hb, h2⟩
theorem OwnAt.below (h : OwnAt w b n z) (hb : Below w.heap.size w w') : OwnAt w' b n z := h.keeps (Keeps.of_below hb (Nat.le_refl _) []) List.not_mem_nil
theorem OwnAt.lt (h : OwnAt w b n z) : b < w.heap.size := by obtain ⟨cs, ty, h1, _⟩ := h; exact (Array.getElem?_eq_some_iff.1 h1).1
theorem OwnAt.cell (h : OwnAt w b n z) {i : Nat} (hi : i < n) : w.cell? ⟨b, i, none⟩ = some (.int .i64 (z i)) ∧ w.frozen? ⟨b, i, none⟩ = false := by
  obtain ⟨cs, ty, h1, h2, h3⟩ := h
  exact ⟨(cell_of_block h1).trans (h3 i hi), free_of_block h1⟩
theorem OwnAt.set (h : OwnAt w b n z) (j : Nat) (u : Int) : OwnAt (w.setCell ⟨b, j, none⟩ (.int .i64 u)) b n (fun i => if i = j then u else z i) := by
  obtain ⟨cs, ty, h1, h2, h3⟩ := h
  refine ⟨_, ty, setCell_block h1 _, by simpa using h2, fun i hi => ?_⟩
  rw [Array.getElem?_setIfInBounds]
  dsimp only
  by_cases hij : j = i
  · subst hij; rw [if_pos rfl, if_pos (by omega), if_pos rfl]
  · rw [if_neg hij, if_neg (fun e => hij e.symm)]; exact h3 i hi
theorem OwnAt.congr {z' : Nat → Int} (h : OwnAt w b n z) (hz : ∀ i, i < n → z i = z' i) : OwnAt w b n z' := by
  obtain ⟨cs, ty, h1, h2, h3⟩ := h
  exact ⟨cs, ty, h1, h2, fun i hi => by rw [h3 i hi, hz i hi]⟩
theorem OwnAt.made (w : World) (n : Nat) (ty : TypeId) : OwnAt (w.alloc (.cells (madeCells #[Value.int .i64 0] n) ty)) w.heap.size n (fun _ => 0) := by
  refine ⟨_, ty, heap_alloc_at w _, by simp [size_madeCells], fun i hi => ?_⟩
  rw [← Array.getElem?_toList, toList_madeCells_one, List.getElem?_replicate, if_pos hi]
end
end Go.Proofs.Ytogifanooleppaa

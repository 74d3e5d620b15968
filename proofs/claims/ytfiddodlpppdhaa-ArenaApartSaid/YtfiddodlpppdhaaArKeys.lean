/- slices.Sorted(maps.Keys(m)) of a map with int keys: its keys, rising. -/
import Derived.Test.YtfiddodlpppdhaaShelf
import Derived.Test.YtfiddodlpppdhaaMaps
import Derived.Test.YtfiddodlpppdhaaArAcc
import Derived.Lib.SlKeysI
namespace Go.Proofs.Ytfiddodlpppdhaa
open Go.RowKit Go.Maps Go.Sort Go.Shelf
set_option linter.unusedVariables false

theorem sorted_one {ss S : List Int} (h : ss.Perm S) (hS : S.Pairwise (· < ·)) : ss.mergeSort (fun x y => decide (x ≤ y)) = S := by
  have e1 := mergeSort_of_perm_i h
  have e2 : S.mergeSort leI = S := List.mergeSort_of_pairwise (hS.imp fun {a b} h => by simpa [leI] using Int.le_of_lt h)
  exact e1.trans e2
theorem keys_perm {P : Program} {k : TypeId} {R : Value → Option (DataW Value × List MemPlace)} {w : World} {b n : Nat} {D : DataW Value} (hown : w.ownsMap P k R b n D) (K : Keyed P k) (hk : P.underlying k = some (.int .i64)) {S : List Int} (hS : S.Pairwise (· < ·))
    (hm : ∀ x, x ∈ S ↔ (Lit.int .i64 x).wf = true ∧ has D (.int .i64 x) = true) : S.Perm (intKeys D) := by
  obtain ⟨es, hD, hpw, _⟩ := hown.entries K
  obtain ⟨es', hD', hko⟩ := hown.keysOf
  obtain rfl : es = es' := by rw [hD] at hD'; simpa using hD'
  subst hD
  refine perm_intKeys hpw (fun p hp => by obtain ⟨v, hv⟩ := hko p hp; obtain ⟨x, _, hx, _⟩ := Maps.keyOf_i64 hk hv; exact ⟨x, hx⟩) (hS.imp fun {a b} h => by omega) (fun x => ?_)
  rw [hm x]
  constructor
  · exact fun h => h.2
  · intro h
    refine ⟨?_, h⟩
    rw [has_eq, List.any_eq_true] at h
    obtain ⟨p, hp, hs⟩ := h
    obtain ⟨v, hv⟩ := hko p hp
    obtain ⟨y, _, hy, hw⟩ := Maps.keyOf_i64 hk hv
    rw [hy] at hs
    have : y = x := by simpa [Lit.sameKey] using hs
    rw [← this]; exact hw

/-- slices.Sort's two contracts here -/
theorem sortsIn (m : Nat) : AnyZI.SortsIn Try.prog sortedL_ren Fence.wide m :=
  ⟨fun blk off cap ss W hH hblk hsz => callsIn_wide.2 (AnyM.slices_Sort_int sortL blk off cap ss W hH hblk hsz),
   fun p cap W => callsIn_wide.2 (AnyM.slices_Sort_int_none sortL p cap W)⟩
theorem keys_calls (mb : Option Nat) (W : World) : Calls Try.prog 51 #[.map mb] W fun e w' => e = .returned (.func (.func 62) #[] #[.pointer (some ⟨W.heap.size, 0, none⟩)]) ∧ w' = W.alloc (.cells #[.map mb] 53) :=
  (callsIn_wide (n := 5)).1 (AnyZI.keys_in keysL Fence.wide 5 trivial rfl mb W)
set_option maxHeartbeats 1000000 in
theorem sorted_calls {b n : Nat} {f : Int → Option Value} {S : List Int} (w : World) (h : MapAt Try.prog w 3 b n f) (hn : n ≤ 1048576) (hS : S.Pairwise (· < ·)) (hm : ∀ x, x ∈ S ↔ (Lit.int .i64 x).wf = true ∧ (f x).isSome = true) :
    Calls Try.prog 50 #[.func (.func 62) #[] #[.pointer (some ⟨w.heap.size, 0, none⟩)]] (w.alloc (.cells #[.map (some b)] 53)) (RowDone w S) := by
  have hlt := h.lt
  obtain ⟨D, hown, hat⟩ := h
  have hsz := hown.size_le
  have hp : S.Perm (intKeys D) := keys_perm hown (int_keyed Try.underlying3) Try.underlying3 hS (fun x => by
    rw [hm x]
    constructor
    · rintro ⟨h1, h2⟩; exact ⟨h1, by rw [(hat x h1).2]; exact h2⟩
    · rintro ⟨h1, h2⟩; exact ⟨h1, by rw [(hat x h1).2] at h2; exact h2⟩)
  have hseq : SeqGives Fence.wide 2 Try.prog 62 #[.pointer (some ⟨w.heap.size, 0, none⟩)] encZ (fun ss => ss.Perm (intKeys D)) (Maps.size D) (w.alloc (.cells #[.map (some b)] 53)) :=
    AnyZI.keys_gives (ρ := keysL_ren) { keysL with } Fence.wide _ trivial rfl (by omega) w.heap.size b n D _ (by simp) (by simp) (by
      obtain ⟨es, clock, hb, Ft, hs, hD⟩ := hown
      exact ⟨es, clock, (Below.heap_alloc _ _ b hlt).trans hb, Ft, hs, hD⟩)
  have cS := AnyZI.sorted_in sortedL Fence.wide 5 trivial trivial trivial trivial rfl (by omega) (sortsIn _) (enters_of Try.func61 (by kernel_rfl) rfl) 62 #[.pointer (some ⟨w.heap.size, 0, none⟩)] trivial (enters_of Try.func62 (by kernel_rfl) rfl) _ _ (by unfold maxLen; omega) (by omega) _ hseq
  change CallsIn _ _ Try.prog 50 _ _ _ at cS
  refine ((callsIn_wide (n := 5)).1 cS).mono ?_
  rintro e w' ⟨v, ss, rfl, hs, hrow, hnil, hb⟩
  have e1 : ss.mergeSort (fun x y => decide (x ≤ y)) = S := sorted_one (hs.trans hp.symm) hS
  have e2 : ss.length = S.length := (hs.trans hp.symm).length_eq
  rw [e1, e2] at hrow
  have hr : RowS w' 1 v S.length (intC S) := RowS.of_owns hrow
  refine ⟨v, rfl, hr, fun g hg => ?_, ((Below.refl _ w).alloc (Nat.le_refl _) _).trans (hb.mono (by simp))⟩
  obtain ⟨_, h2⟩ := hrow
  rcases h2 with ⟨rfl, _⟩ | ⟨g2, cap, cur, rfl, hb2, _⟩
  · cases hg
  · simp [Value.ownBlock] at hg
    rw [size_alloc] at hb2
    omega
end Go.Proofs.Ytfiddodlpppdhaa

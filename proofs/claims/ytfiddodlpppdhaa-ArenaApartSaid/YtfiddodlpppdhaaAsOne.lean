/- Plain: an arena whose blocks are all of one small size. -/
import Derived.Test.YtfiddodlpppdhaaAsFine2
namespace Go.Proofs.Ytfiddodlpppdhaa
open Go.RowKit Go.Maps
set_option linter.unusedVariables false
/-- where a block of a size may begin -/
def slot (N s x : Nat) : Prop := 64 ≤ x ∧ x < 64 * N ∧ x % s = 0
theorem nodup_sub : ∀ {l m : List Nat}, l.Nodup → (∀ x ∈ l, x ∈ m) → l.length ≤ m.length
  | [], m, _, _ => Nat.zero_le _
  | x :: l, m, hn, h => by
    have hx := h x (by simp)
    have hc := List.nodup_cons.1 hn
    have := nodup_sub (m := m.erase x) hc.2 fun y hy => by
      have hne : y ≠ x := fun e => hc.1 (e ▸ hy)
      exact (List.mem_erase_of_ne hne).2 (h y (List.mem_cons_of_mem _ hy))
    rw [List.length_erase_of_mem hx] at this
    have : 0 < m.length := List.length_pos_of_mem hx
    rw [List.length_cons]
    omega
/-- where blocks may begin, all -/
def slotsL (N s : Nat) : List Nat := (List.range ((N - 1) * (64 / s))).map fun i => 64 + i * s
theorem slotsL_len (N s : Nat) : (slotsL N s).length = (N - 1) * (64 / s) := by simp [slotsL]
theorem slot_at {N s i : Nat} (hs : small5 s) (hi : i < (N - 1) * (64 / s)) : slot N s (64 + i * s) := by
  unfold small5 at hs
  unfold slot
  rcases hs with rfl | rfl | rfl | rfl | rfl <;> omega
theorem slot_of {N s x : Nat} (hs : small5 s) (h : slot N s x) : ∃ i, i < (N - 1) * (64 / s) ∧ x = 64 + i * s := by
  obtain ⟨h1, h2, h3⟩ := h
  unfold small5 at hs
  rcases hs with rfl | rfl | rfl | rfl | rfl
  · exact ⟨(x - 64) / 2, by omega, by omega⟩
  · exact ⟨(x - 64) / 4, by omega, by omega⟩
  · exact ⟨(x - 64) / 8, by omega, by omega⟩
  · exact ⟨(x - 64) / 16, by omega, by omega⟩
  · exact ⟨(x - 64) / 32, by omega, by omega⟩
theorem mem_slotsL {N s x : Nat} (hs : small5 s) : x ∈ slotsL N s ↔ slot N s x := by
  unfold slotsL
  rw [List.mem_map]
  constructor
  · rintro ⟨i, hi, rfl⟩
    exact slot_at hs (List.mem_range.1 hi)
  · intro h
    obtain ⟨i, hi, rfl⟩ := slot_of hs h
    exact ⟨i, List.mem_range.2 hi, rfl⟩
theorem slotsL_nodup {N s : Nat} (hs : small5 s) : (slotsL N s).Nodup := by
  have h0 := (small_at hs).1
  unfold slotsL
  refine List.pairwise_map.2 (List.nodup_range.imp fun {a b} hab e => hab ?_)
  have : a * s = b * s := by omega
  exact Nat.eq_of_mul_eq_mul_right h0 this
section
variable {s n : Nat} {A A' : Ar}
theorem Fine.slotOf (f : Fine (· = s) A) (hs : small5 s) {x : Nat} {b : BlkT} (hb : A.B x = some b) : slot A.N s x := by
  obtain ⟨h1, h2, _, h4, _⟩ := f.ok.blk x b hb
  have e : b.size = s := f.sz x b hb
  have h0 := (small_at hs).1
  have h32 := (small_at hs).2.1
  rw [e] at h2 h4
  rcases h4 with ⟨_, h⟩ | ⟨h, _⟩
  · exact ⟨h1, by omega, h⟩
  · omega
/-- what stands at a slot of a page that is taken -/
theorem FineE.slotBlk {E : Nat → Prop} {R : List Int} (f : FineE (· = s) A E R) (hs : small5 s) {x : Nat} (hx : slot A.N s x) (hT : A.T (x / 64) ≠ none) : ∃ d, A.B x = some d ∧ d.size = s := by
  cases hr : A.T (x / 64) with
  | none => exact absurd hr hT
  | some r =>
    obtain ⟨b, h1, h2, h3⟩ := f.page _ r hr
    have e : b.size = s := f.sz _ b h1
    rw [e] at h2 h3
    obtain ⟨r1, r2, r3⟩ := r
    obtain ⟨q1, q2, q3, q4, q5⟩ := f.ok.runs _ r1 r2 r3 hr
    have h2 : r2 = runLenN s := h2
    rw [(small_at hs).2.2.2.2.1] at h2
    have hp : r1 = x / 64 := by omega
    obtain ⟨x1, x2, x3⟩ := hx
    have hj : (x - 64 * r1) / s < 64 / s ∧ 64 * r1 + (x - 64 * r1) / s * s = x := by
      unfold small5 at hs
      rcases hs with rfl | rfl | rfl | rfl | rfl <;> omega
    obtain ⟨d, d1, d2⟩ := h3 hs _ hj.1
    have d1 : A.B (64 * r1 + (x - 64 * r1) / s * s) = some d := d1
    rw [hj.2] at d1
    exact ⟨d, d1, d2⟩
/-- what is not in use there, is free, where nothing waits -/
theorem FineE.slotFree (f : FineE (· = s) A noneE []) (hs : small5 s) (hL : A.L = []) {x : Nat} (hx : slot A.N s x) (hT : A.T (x / 64) ≠ none) (hl : liveB A x = none) : A.F (clsN s) x = true := by
  obtain ⟨d, d1, d2⟩ := f.slotBlk hs hx hT
  have h1 := liveB_none.1 hl d d1
  have h2 := f.nobad x d d1
  have h3 := (f.ok.blk x d d1).2.2.2.2
  have h4 : d.st ≠ 2 := fun e => by
    rcases f.fullL x d d1 e with h | h
    · rw [hL] at h; exact absurd h List.not_mem_nil
    · exact absurd h List.not_mem_nil
  have := f.fullF x d (fun h => h) d1 (by rw [d2]; exact hs) (by omega)
  rw [d2] at this
  exact this
theorem used_some {T : Nat → Option RunT} {p : Nat} (h : usedB T p = true) (hp : 1 ≤ p) : T p ≠ none := by
  intro e
  unfold usedB at h
  rw [e] at h
  simp at h
  omega
theorem noRun_used {N : Nat} {T : Nat → Option RunT} (h : RunIs N (usedB T) 1 (-1)) {p : Nat} (hp : 1 ≤ p) (hpN : p < N) : T p ≠ none := by
  rcases h with ⟨_, h⟩ | ⟨i, h, _⟩
  · refine used_some ?_ hp
    cases hu : usedB T p with
    | true => rfl
    | false =>
      refine absurd ⟨by omega, fun j h1 h2 => ?_⟩ (h p)
      obtain rfl : j = p := by omega
      exact hu
  · omega
/-- where Alloc refuses, all is in use -/
theorem AllocR.oneNone (h : AllocR n A none A') (f : Fine (· = s) A) (hs : small5 s) (hn : szI n = s) (hc : clsI n = clsN s) : ∀ x, slot A.N s x → liveB A x ≠ none := by
  obtain ⟨ff, hf⟩ := f.flush
  obtain ⟨n1, n2, n3, n4, n5⟩ := openA_N (A.L.map (·.1)) { A with L := [] }
  cases h with
  | full A1 _ ht ht2 =>
    rw [hn, hc] at ht ht2
    have e1 := (ht.fine f (.inl ⟨hs, rfl⟩) rfl).1 rfl
    subst e1
    intro x hx hl
    rw [← hf] at hl
    rcases ht2.small ff hs rfl with ⟨_, _, h1, h2⟩ | ⟨y, h1, _⟩ | ⟨p, h1, _⟩
    · have hx' : slot (opensA { A1 with L := [] } (A1.L.map (·.1))).N s x := by rw [n1]; exact hx
      have hT := noRun_used h2 (p := x / 64) (by have := hx.1; omega) (by rw [n1]; have := hx.2.1; show x / 64 < A1.N; omega)
      have := ff.slotFree hs n4 hx' hT hl
      rw [h1] at this
      cases this
    · cases h1
    · cases h1
/-- the pages that are taken are the first ones -/
def Dense (A : Ar) : Prop := ∀ p, A.T p ≠ none → ∀ q, 1 ≤ q → q < p → A.T q ≠ none
theorem TakeR.least {x : Nat} {c : Nat} (h : TakeR c s A (some x) A') (f : Fine (· = s) A) (hs : small5 s) (hc : c = clsN s) (hL : A.L = []) (hD : Dense A) :
    (∀ y, slot A.N s y → liveB A y = none → x ≤ y) ∧ Dense A' := by
  rcases h.small f hs hc with ⟨h1, _⟩ | ⟨y, h1, h2, rfl⟩ | ⟨p, h1, h2, h3, rfl⟩
  · cases h1
  · cases h1
    refine ⟨fun y hy hl => ?_, hD⟩
    refine Nat.le_of_not_lt fun hlt => ?_
    obtain ⟨d, d1, _⟩ := f.ok.free c x h2.1
    have hTx : A.T (x / 64) ≠ none := by rw [f.ok.tab x d d1]; simp
    have hTy : A.T (y / 64) ≠ none := by
      by_cases e : y / 64 = x / 64
      · rw [e]; exact hTx
      · exact hD _ hTx _ (by have := hy.1; omega) (by omega)
    have := h2.2 y (by rw [hc]; exact f.slotFree hs hL hy hTy hl)
    omega
  · cases h1
    refine ⟨fun y hy hl => ?_, ?_⟩
    · refine Nat.le_of_not_lt fun hlt => ?_
      have hTy : A.T (y / 64) ≠ none := by
        rcases h3 with ⟨h3, _⟩ | ⟨i, h3, _, h4⟩
        · omega
        · obtain rfl : p = i := by omega
          refine used_some ?_ (by have := hy.1; omega)
          cases hu : usedB A.T (y / 64) with
          | true => rfl
          | false =>
            refine absurd ⟨by have := hy.2.1; omega, fun j q1 q2 => ?_⟩ (h4 (y / 64) (by omega))
            obtain rfl : j = y / 64 := by omega
            exact hu
      have := f.slotFree hs hL hy hTy hl
      rw [← hc, h2] at this
      cases this
    · intro q hq q' h1 h2
      show putT A.T p 1 ((c : Int) + 1) 1 q' ≠ none
      have hq : putT A.T p 1 ((c : Int) + 1) 1 q ≠ none := hq
      unfold putT at hq ⊢
      split
      · simp
      · next hne =>
        split at hq
        · next he =>
          rcases h3 with ⟨h3, _⟩ | ⟨i, h3, hrp0, h4⟩
          · omega
          · obtain rfl : p = i := by omega
            refine used_some ?_ h1
            cases hu : usedB A.T q' with
            | true => rfl
            | false =>
              have hrp : runP A.N (usedB A.T) 1 q' := by
                refine ⟨?_, fun j q1 q2 => ?_⟩
                · have : p + 1 ≤ A.N := hrp0.1
                  omega
                · obtain rfl : j = q' := by omega
                  exact hu
              exact absurd hrp (h4 q' (by omega))
        · exact hD q hq q' h1 h2
theorem AllocR.oneLeast {x : Nat} (h : AllocR n A (some x) A') (f : Fine (· = s) A) (hs : small5 s) (hn : szI n = s) (hc : clsI n = clsN s) (hL : A.L = []) (hD : Dense A) :
    (∀ y, slot A.N s y → liveB A y = none → x ≤ y) ∧ Dense A' ∧ A'.L = [] := by
  cases h with
  | at_ A1 _ ht =>
    have g := (ht.got f.ok (by rw [hn, hc]; exact .inl ⟨hs, rfl⟩)).2.2.1
    rw [hn, hc] at ht
    obtain ⟨h1, h2⟩ := ht.least f hs rfl hL hD
    exact ⟨h1, h2, g.trans hL⟩
  | again A1 A2 _ ht ht2 =>
    rw [hn, hc] at ht
    have e1 := (ht.fine f (.inl ⟨hs, rfl⟩) rfl).1 rfl
    subst e1
    have e2 : opensA { A1 with L := [] } (A1.L.map (·.1)) = A1 := by
      rw [hL]
      show ({ A1 with L := [] } : Ar) = A1
      cases A1
      dsimp only at hL
      rw [hL]
    rw [e2] at ht2
    have g := (ht2.got f.ok (by rw [hn, hc]; exact .inl ⟨hs, rfl⟩)).2.2.1
    rw [hn, hc] at ht2
    obtain ⟨h1, h2⟩ := ht2.least f hs rfl hL hD
    exact ⟨h1, h2, g.trans hL⟩
theorem stays_zero : ∀ {l : List (Int × Nat)}, (∀ x ∈ l, 0 < x.2) → stays 0 l = []
  | [], _ => rfl
  | x :: r, h => by
    have h1 := h x (by simp)
    have : 0 < sumL (x :: r) := by
      obtain ⟨a, k⟩ := x
      have h1 : 0 < k := h1
      show 0 < sumL ((a, k) :: r)
      simp only [sumL]
      omega
    rw [(goes_on this).2]
    exact stays_zero fun y hy => h y (List.mem_cons_of_mem _ hy)
theorem opensA_T : ∀ (l : List Int) {A : Ar}, (∀ y b, A.B y = some b → b.size ≤ 32) → (opensA A l).T = A.T
  | [], A, _ => rfl
  | x :: l, A, h => by
    have h1 : (openA A x.toNat).T = A.T ∧ ∀ y b, (openA A x.toNat).B y = some b → b.size ≤ 32 := by
      cases hb : A.B x.toNat with
      | none =>
        have e : openA A x.toNat = A := by unfold openA; rw [hb]
        rw [e]; exact ⟨rfl, h⟩
      | some b =>
        have hs := h _ b hb
        rw [openA_small hb hs]
        refine ⟨rfl, fun y d hd => ?_⟩
        rcases upd_case hd with ⟨_, rfl⟩ | ⟨_, hd⟩
        · exact hs
        · exact h y d hd
    exact (opensA_T l h1.2).trans h1.1
theorem Fine.freeT (f : Fine (· = s) A) (hs : small5 s) {x : Nat} {b : BlkT} (hb : A.B x = some b) : (freeA A x b).T = A.T := by
  rw [freeA_eq]
  refine opensA_T _ fun y d hd => ?_
  have h32 := (small_at hs).2.1
  rcases upd_case hd with ⟨_, rfl⟩ | ⟨_, hd⟩
  · have e : b.size = s := f.sz x b hb
    show b.size ≤ 32
    omega
  · have e : d.size = s := f.sz y d hd
    omega
end
end Go.Proofs.Ytfiddodlpppdhaa

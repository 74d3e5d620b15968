/- Plain: the blocks of an arena that are such, rising. -/
import Derived.Test.YtfiddodlpppdhaaAsOneS
namespace Go.Proofs.Ytfiddodlpppdhaa
open Go.RowKit Go.Maps
set_option linter.unusedVariables false
/-- the blocks that are such, rising -/
def suchL (A : Ar) (q : Nat → BlkT → Bool) : List Nat := (List.range (64 * A.N)).filter fun x => match A.B x with | none => false | some b => q x b
def natI (l : List Nat) : List Int := l.map fun x : Nat => (x : Int)
theorem natI_len (l : List Nat) : (natI l).length = l.length := by simp [natI]
theorem mem_natI {l : List Nat} {x : Int} : x ∈ natI l ↔ ∃ n, n ∈ l ∧ x = (n : Int) := by
  unfold natI
  rw [List.mem_map]
  exact ⟨fun ⟨n, h1, h2⟩ => ⟨n, h1, h2.symm⟩, fun ⟨n, h1, h2⟩ => ⟨n, h1, h2.symm⟩⟩
def allL (A : Ar) : List Nat := suchL A fun _ _ => true
def qI (A : Ar) (q : Nat → BlkT → Bool) (x : Int) : Bool := match A.B x.toNat with | none => false | some b => q x.toNat b
def liveQ : Nat → BlkT → Bool := fun _ b => (b.st : Int) == 1
noncomputable def smashQ (A : Ar) : Nat → BlkT → Bool := fun x b => if b.st = 1 then !keptD A x b else if b.st = 4 then false else !wholeD A x b
def liveL (A : Ar) : List Nat := suchL A liveQ
noncomputable def checkL (A : Ar) : List Nat := suchL A (smashQ A)
section
variable {A : Ar} {q : Nat → BlkT → Bool}
theorem suchL_len : (suchL A q).length ≤ 64 * A.N := by
  unfold suchL
  refine Nat.le_trans (List.length_filter_le _ _) ?_
  rw [List.length_range]
  exact Nat.le_refl _
theorem suchL_nodup : (suchL A q).Nodup := List.Nodup.sublist List.filter_sublist List.nodup_range
theorem mem_suchL (ok : ArOk A) {x : Nat} : x ∈ suchL A q ↔ ∃ b, A.B x = some b ∧ q x b = true := by
  unfold suchL
  rw [List.mem_filter, List.mem_range]
  constructor
  · rintro ⟨_, h⟩
    cases hb : A.B x with
    | none => rw [hb] at h; cases h
    | some b => rw [hb] at h; exact ⟨b, rfl, h⟩
  · rintro ⟨b, hb, h⟩
    have := ok.size_pos hb
    refine ⟨by omega, ?_⟩
    rw [hb]
    exact h
theorem such_nat : (natI (allL A)).filter (qI A q) = natI (suchL A q) := by
  unfold natI allL suchL
  rw [List.filter_map, List.filter_filter]
  congr 1
  refine List.filter_congr fun x _ => ?_
  unfold qI
  simp only [Function.comp, Int.toNat_natCast]
  cases A.B x <;> simp
theorem all_rise : (natI (allL A)).Pairwise (· < ·) := by
  unfold natI
  refine List.pairwise_map.2 ?_
  refine List.Pairwise.imp (R := (· < ·)) (fun {a b} h => by omega) ?_
  exact List.Pairwise.sublist List.filter_sublist List.pairwise_lt_range
theorem mem_all (ok : ArOk A) {blk : Nat → Nat} {x : Int} : x ∈ natI (allL A) ↔ (Lit.int .i64 x).wf = true ∧ (mapP A.B blk x).isSome = true := by
  have hn := ok.n
  rw [mem_natI]
  constructor
  · rintro ⟨n, h, rfl⟩
    obtain ⟨b, hb, _⟩ := (mem_suchL ok).1 h
    have := ok.size_pos hb
    refine ⟨WalkArith.wf_i64 (by omega), ?_⟩
    rw [mapP_some hb]
    rfl
  · rintro ⟨_, h⟩
    unfold mapP at h
    split at h
    · next h0 =>
      cases hb : A.B x.toNat with
      | none => rw [hb] at h; cases h
      | some b => exact ⟨x.toNat, (mem_suchL ok).2 ⟨b, hb, rfl⟩, by omega⟩
    · cases h
theorem mem_liveL (ok : ArOk A) {x : Nat} : x ∈ liveL A ↔ liveB A x ≠ none := by
  unfold liveL
  rw [mem_suchL ok]
  unfold liveQ
  constructor
  · rintro ⟨b, hb, h⟩ e
    rw [beq_iff_eq] at h
    exact liveB_none.1 e b hb (by omega)
  · intro h
    cases hl : liveB A x with
    | none => exact absurd hl h
    | some b =>
      obtain ⟨h1, h2⟩ := liveB_some.1 hl
      exact ⟨b, h1, by rw [beq_iff_eq]; omega⟩
theorem mem_checkL (ok : ArOk A) {x : Nat} : x ∈ checkL A ↔ ∃ b, A.B x = some b ∧ ((b.st = 1 ∧ ¬ keptA A x b) ∨ (b.st ≠ 1 ∧ b.st ≠ 4 ∧ ¬ wholeA A x b)) := by
  unfold checkL
  rw [mem_suchL ok]
  have hn := ok.n
  constructor
  · rintro ⟨b, hb, h⟩
    have hz := ok.size_pos hb
    refine ⟨b, hb, ?_⟩
    unfold smashQ at h
    split at h
    · next h1 =>
      refine .inl ⟨h1, fun hk => ?_⟩
      rw [(keptD_iff (by omega) (by omega)).2 hk] at h
      cases h
    · next h1 =>
      split at h
      · cases h
      · next h4 =>
        refine .inr ⟨h1, h4, fun hk => ?_⟩
        rw [(wholeD_iff (by omega)).2 hk] at h
        cases h
  · rintro ⟨b, hb, h⟩
    have hz := ok.size_pos hb
    refine ⟨b, hb, ?_⟩
    unfold smashQ
    rcases h with ⟨h1, h2⟩ | ⟨h1, h2, h3⟩
    · rw [if_pos h1]
      cases hk : keptD A x b with
      | true => exact absurd ((keptD_iff (by omega) (by omega)).1 hk) h2
      | false => rfl
    · rw [if_neg h1, if_neg h2]
      cases hk : wholeD A x b with
      | true => exact absurd ((wholeD_iff (by omega)).1 hk) h3
      | false => rfl
theorem Fine.check {S : Nat → Prop} (f : Fine S A) : checkL A = [] := by
  rw [List.eq_nil_iff_forall_not_mem]
  intro x hx
  obtain ⟨b, hb, ⟨h1, h2⟩ | ⟨h1, h2, h3⟩⟩ := (mem_checkL f.ok).1 hx
  · exact h2 (f.use x b hb h1)
  · refine h3 ?_
    by_cases h0 : b.st = 0
    · exact .inl h0
    · refine .inr (f.poi x b hb ?_)
      have := (f.ok.blk x b hb).2.2.2.2
      omega
/-- lists of the same members, each once, are as long as each other -/
theorem nodup_len {l m : List Nat} (h1 : l.Nodup) (h2 : m.Nodup) (h : ∀ x, x ∈ l ↔ x ∈ m) : l.length = m.length :=
  Nat.le_antisymm (nodup_sub h1 fun x hx => (h x).1 hx) (nodup_sub h2 fun x hx => (h x).2 hx)
theorem suchL_rise : (suchL A q).Pairwise (· < ·) := List.Pairwise.sublist List.filter_sublist List.pairwise_lt_range
/-- lists that rise and have the same members are one -/
theorem rise_eq {l m : List Nat} (h1 : l.Pairwise (· < ·)) (h2 : m.Pairwise (· < ·)) (h : ∀ x, x ∈ l ↔ x ∈ m) : l = m := by
  have n1 : l.Nodup := h1.imp fun {a b} h => by omega
  have n2 : m.Nodup := h2.imp fun {a b} h => by omega
  exact List.Perm.eq_of_pairwise (le := fun a b : Nat => a < b) (fun a b _ _ h3 h4 => by omega) h1 h2 ((List.perm_ext_iff_of_nodup n1 n2).2 h)
theorem liveL_eq {A' : Ar} (ok : ArOk A) (ok' : ArOk A') (h : liveB A' = liveB A) : liveL A' = liveL A :=
  rise_eq suchL_rise suchL_rise fun x => by
    have a := mem_liveL ok' (x := x)
    have b := mem_liveL ok (x := x)
    rw [h] at a
    exact a.trans b.symm
theorem liveL_nil (ok : ArOk A) (h : ∀ x, liveB A x = none) : liveL A = [] := by
  rw [List.eq_nil_iff_forall_not_mem]
  intro x hx
  exact (mem_liveL ok).1 hx (h x)
end
end Go.Proofs.Ytfiddodlpppdhaa

/- Plain: an arena where nobody wrote where nobody may: what its calls leave of it. -/
import Derived.Test.YtfiddodlpppdhaaAsFree
namespace Go.Proofs.Ytfiddodlpppdhaa
open Go.RowKit Go.Maps
set_option linter.unusedVariables false
/-- nobody wrote where nobody may; sizes are of S; the block E is in nobody's hands; R is what is about to be free -/
structure FineE (S : Nat → Prop) (A : Ar) (E : Nat → Prop) (R : List Int) : Prop where
  ok : ArOk A
  use : ∀ x b, A.B x = some b → b.st = 1 → keptA A x b
  poi : ∀ x b, A.B x = some b → b.st = 2 ∨ b.st = 3 → ∀ i, i < b.size → A.wd (x + i) = ps ((x + i : Nat) : Int)
  nobad : ∀ x b, A.B x = some b → b.st ≠ 4
  bad0 : A.bad = 0
  fullF : ∀ x b, ¬ E x → A.B x = some b → small5 b.size → b.st = 0 ∨ b.st = 3 → A.F (clsN b.size) x = true
  fullL : ∀ x b, A.B x = some b → b.st = 2 → (x : Int) ∈ A.L.map (·.1) ∨ (x : Int) ∈ R
  large : ∀ x b, ¬ E x → A.B x = some b → 64 ≤ b.size → b.st = 1 ∨ b.st = 2
  page : ∀ p r, A.T p = some r → ∃ b, A.B (64 * r.1) = some b ∧ r.2.1 = runLenN b.size ∧ (small5 b.size → ∀ j, j < 64 / b.size → ∃ d, A.B (64 * r.1 + j * b.size) = some d ∧ d.size = b.size)
  sz : ∀ x b, A.B x = some b → S b.size
def noneE : Nat → Prop := fun _ => False
abbrev Fine (S : Nat → Prop) (A : Ar) : Prop := FineE S A noneE []
/-- the blocks in use -/
def liveB (A : Ar) : Nat → Option BlkT := fun y => match A.B y with
  | none => none
  | some b => if b.st = 1 then some b else none
theorem liveB_some {A : Ar} {x : Nat} {b : BlkT} : liveB A x = some b ↔ A.B x = some b ∧ b.st = 1 := by
  unfold liveB
  cases h : A.B x with
  | none => simp
  | some d =>
    by_cases hd : d.st = 1
    · simp only [hd, if_true, Option.some.injEq]
      constructor
      · rintro rfl; exact ⟨rfl, hd⟩
      · rintro ⟨rfl, _⟩; rfl
    · simp only [hd, if_false, Option.some.injEq]
      constructor
      · intro h; cases h
      · rintro ⟨rfl, h⟩; exact absurd h hd
theorem liveB_none {A : Ar} {x : Nat} : liveB A x = none ↔ ∀ b, A.B x = some b → b.st ≠ 1 := by
  constructor
  · intro h b hb hs
    have := (liveB_some (A := A) (x := x) (b := b)).2 ⟨hb, hs⟩
    rw [h] at this
    cases this
  · intro h
    cases hl : liveB A x with
    | none => rfl
    | some b =>
      obtain ⟨h1, h2⟩ := liveB_some.1 hl
      exact absurd h2 (h b h1)
theorem liveB_congr {A A' : Ar} (h : ∀ x b, b.st = 1 → (A'.B x = some b ↔ A.B x = some b)) : liveB A' = liveB A := by
  funext x
  cases hl : liveB A x with
  | none =>
    rw [liveB_none] at hl ⊢
    intro b hb hs
    exact hl b ((h x b hs).1 hb) hs
  | some b =>
    rw [liveB_some] at hl ⊢
    exact ⟨(h x b hl.2).2 hl.1, hl.2⟩
section
variable {S : Nat → Prop} {A : Ar} {E : Nat → Prop} {R : List Int}
/-- two blocks have no word in common -/
theorem ArOk.disj (ok : ArOk A) {x y : Nat} {b d : BlkT} (hb : A.B x = some b) (hd : A.B y = some d) (hne : x ≠ y) {i j : Nat} (hi : i < b.size) (hj : j < d.size) : x + i ≠ y + j := by
  have key : ∀ {x y : Nat} {b d : BlkT} {i j : Nat}, A.B x = some b → A.B y = some d → x ≠ y → i < b.size → j < d.size → x / 64 ≤ y / 64 → x + i ≠ y + j := by
    intro x y b d i j hb hd hne hi hj hle he
    obtain ⟨_, _, _, g1, _⟩ := ok.blk x b hb
    obtain ⟨_, _, _, g2, _⟩ := ok.blk y d hd
    have hr : y / 64 < x / 64 + runLenN b.size := by
      rcases g1 with ⟨g1, g3⟩ | ⟨g1, g3, g4⟩
      · rw [(small_at g1).2.2.2.2.1]
        unfold small5 at g1
        rcases g1 with g1 | g1 | g1 | g1 | g1 <;> rw [g1] at g3 hi <;> omega
      · rw [(clsN_large g1).2]; omega
    rcases (ok.inRun hb hd hle hr).2.2 with ⟨h5, hs⟩ | ⟨_, h⟩
    · rcases g1 with ⟨g1, g3⟩ | ⟨g1, _⟩
      · rcases g2 with ⟨g2, g4⟩ | ⟨g2, _⟩
        · rw [← hs] at g4 hj
          unfold small5 at g1
          rcases g1 with g1 | g1 | g1 | g1 | g1 <;> rw [g1] at g3 g4 hi hj <;> omega
        · have := (small_at h5).2.1; omega
      · have := (small_at h5).2.1; omega
    · exact hne h
  rcases Nat.le_total (x / 64) (y / 64) with h | h
  · exact key hb hd hne hi hj h
  · exact fun e => key hd hb (Ne.symm hne) hj hi h e.symm
theorem FineE.whole (f : FineE S A E R) {c x : Nat} {b : BlkT} (hf : A.F c x = true) (hb : A.B x = some b) : wholeA A x b := by
  obtain ⟨d, e1, _, _, e2⟩ := f.ok.free c x hf
  rw [hb] at e1
  cases e1
  rcases e2 with e2 | e2
  · exact .inl e2
  · exact .inr (f.poi x b hb (.inr e2))
/-- first, where all that is free is whole -/
theorem FirstR.fine {c : Nat} {r : Option Nat} {A A' : Ar} (h : FirstR c A r A') (hw : ∀ x b, A.F c x = true → A.B x = some b → wholeA A x b) :
    (r = Option.none ∧ A' = A ∧ ∀ x, A.F c x = false) ∨ ∃ x, r = some x ∧ LeastF A c x ∧ A' = { A with F := updF A.F c x false } := by
  cases h with
  | none _ h => exact .inl ⟨rfl, rfl, h⟩
  | hit _ x b h1 h2 h3 => exact .inr ⟨x, rfl, h1, rfl⟩
  | miss _ _ x b _ h1 h2 h3 h4 => exact absurd (hw x b h1.1 h2) h3
theorem FineE.pop (f : FineE S A noneE R) (c x : Nat) : FineE S { A with F := updF A.F c x false } (· = x) R :=
  ⟨f.ok.popF c x, f.use, f.poi, f.nobad, f.bad0, fun y b hy hb hs hst => by
    show updF A.F c x false _ y = true
    unfold updF
    rw [if_neg (fun h => hy h.2)]
    exact f.fullF y b (fun h => h) hb hs hst, f.fullL, fun y b hy hb hs => f.large y b (fun h => h) hb hs, f.page, f.sz⟩
theorem pageB_old {B : Nat → Option BlkT} {p s k x : Nat} (h : ¬ (64 * p ≤ x ∧ x < 64 * p + k * s ∧ (x - 64 * p) % s = 0)) : pageB B p s k x = B x := if_neg h
theorem pageB_new {B : Nat → Option BlkT} {p s k x : Nat} (h : 64 * p ≤ x ∧ x < 64 * p + k * s ∧ (x - 64 * p) % s = 0) : pageB B p s k x = some ⟨s, 0, 0⟩ := if_pos h
theorem FineE.pageOk (f : FineE S A noneE R) {s p : Nat} (hs : small5 s) (hS : S s) (hr : RunIs A.N (usedB A.T) 1 (p : Int)) : FineE S (pageA A (clsN s) s p) noneE R ∧ liveB (pageA A (clsN s) s p) = liveB A := by
  obtain ⟨s1, s2, s3, s4, s5, s6⟩ := small_at hs
  have hrp := hr.at_
  obtain ⟨hp1, hpT⟩ := used_none (hrp.2 p (Nat.le_refl _) (by omega))
  have hout : ∀ {x : Nat} {b : BlkT}, A.B x = some b → ¬ (64 * p ≤ x ∧ x < 64 * p + 64 / s * s ∧ (x - 64 * p) % s = 0) := fun {x b} hb h => f.ok.notIn hpT hb (page_div (by omega) h)
  have hold : ∀ {x : Nat} {b : BlkT}, A.B x = some b → (pageA A (clsN s) s p).B x = some b := fun {x b} hb => (pageB_old (hout hb)).trans hb
  have hcase : ∀ {x : Nat} {b : BlkT}, (pageA A (clsN s) s p).B x = some b → (A.B x = some b) ∨ ((64 * p ≤ x ∧ x < 64 * p + 64 / s * s ∧ (x - 64 * p) % s = 0) ∧ b = ⟨s, 0, 0⟩) := fun {x b} hb => by
    by_cases h : 64 * p ≤ x ∧ x < 64 * p + 64 / s * s ∧ (x - 64 * p) % s = 0
    · exact .inr ⟨h, by have := (pageB_new (B := A.B) h).symm.trans hb; cases this; rfl⟩
    · exact .inl ((pageB_old h).symm.trans hb)
  refine ⟨⟨f.ok.page hs hr, fun x b hb hst => ?_, fun x b hb hst => ?_, fun x b hb => ?_, f.bad0, fun x b hx hb h5 hst => ?_, fun x b hb hst => ?_, fun x b hx hb h64 => ?_, fun q r hq => ?_, fun x b hb => ?_⟩, liveB_congr fun x b hst => ⟨fun hb => ?_, fun hb => hold hb⟩⟩
  · rcases hcase hb with h | ⟨_, rfl⟩
    · exact f.use x b h hst
    · cases hst
  · rcases hcase hb with h | ⟨_, rfl⟩
    · exact f.poi x b h hst
    · rcases hst with h | h <;> cases h
  · rcases hcase hb with h | ⟨_, rfl⟩
    · exact f.nobad x b h
    · exact (by decide : (0 : Nat) ≠ 4)
  · show pageF A.F (clsN s) p s (64 / s) (clsN b.size) x = true
    unfold pageF
    rcases hcase hb with h | ⟨h, rfl⟩
    · split
      · rfl
      · exact f.fullF x b (fun h => h) h h5 hst
    · rw [if_pos ⟨rfl, h⟩]
  · rcases hcase hb with h | ⟨_, rfl⟩
    · exact f.fullL x b h hst
    · cases hst
  · rcases hcase hb with h | ⟨_, rfl⟩
    · exact f.large x b (fun h => h) h h64
    · have h64 : 64 ≤ s := h64
      omega
  · have hq : putT A.T p 1 ((clsN s : Int) + 1) 1 q = some r := hq
    unfold putT at hq
    split at hq
    · cases hq
      refine ⟨⟨s, 0, 0⟩, pageB_new ⟨Nat.le_refl _, by show 64 * p < _; omega, by show (64 * p - 64 * p) % s = 0; simp⟩, by show 1 = runLenN s; rw [s5], fun _ j hj => ⟨⟨s, 0, 0⟩, pageB_new ?_, rfl⟩⟩
      have hj : j < 64 / s := hj
      have h1 : (j + 1) * s ≤ 64 / s * s := Nat.mul_le_mul_right _ (by omega)
      rw [Nat.succ_mul] at h1
      exact ⟨by show 64 * p ≤ 64 * p + j * s; omega, by show 64 * p + j * s < _; omega, by show (64 * p + j * s - 64 * p) % s = 0; rw [Nat.add_sub_cancel_left]; exact Nat.mul_mod_left j s⟩
    · obtain ⟨b, h1, h2, h3⟩ := f.page q r hq
      refine ⟨b, hold h1, h2, fun h5 j hj => ?_⟩
      obtain ⟨d, e1, e2⟩ := h3 h5 j hj
      exact ⟨d, hold e1, e2⟩
  · rcases hcase hb with h | ⟨_, rfl⟩
    · exact f.sz x b h
    · exact hS
  · rcases hcase hb with h | ⟨_, rfl⟩
    · exact h
    · cases hst
theorem FineE.greatOk (f : FineE S A noneE R) {s p : Nat} (hs : 64 ≤ s) (hs2 : s % 64 = 0) (hS : S s) (hr : RunIs A.N (usedB A.T) (s / 64) (p : Int)) : FineE S (greatA A s p) (· = 64 * p) R ∧ liveB (greatA A s p) = liveB A := by
  have hrp := hr.at_
  obtain ⟨hp1, hpT⟩ := used_none (hrp.2 p (Nat.le_refl _) (by omega))
  obtain ⟨hc, hl⟩ := clsN_large hs
  have hnone : A.B (64 * p) = none := by
    cases hb : A.B (64 * p) with
    | none => rfl
    | some b => exact absurd (by omega) (f.ok.notIn hpT hb)
  have hne : ∀ {y : Nat} {b : BlkT}, A.B y = some b → y ≠ 64 * p := fun {y b} hb e => by rw [e, hnone] at hb; cases hb
  have hold : ∀ {x : Nat} {b : BlkT}, A.B x = some b → (greatA A s p).B x = some b := fun {x b} hb => (updO_ne _ _ (hne hb)).trans hb
  have hcase : ∀ {x : Nat} {b : BlkT}, (greatA A s p).B x = some b → (A.B x = some b ∧ x ≠ 64 * p) ∨ (x = 64 * p ∧ b = ⟨s, 0, 0⟩) := fun {x b} hb => by
    by_cases h : x = 64 * p
    · subst h
      have := (updO_eq A.B (64 * p) (some ⟨s, 0, 0⟩)).symm.trans hb
      cases this
      exact .inr ⟨rfl, rfl⟩
    · exact .inl ⟨(updO_ne _ _ h).symm.trans hb, h⟩
  refine ⟨⟨f.ok.great hs hs2 hr, fun x b hb hst => ?_, fun x b hb hst => ?_, fun x b hb => ?_, f.bad0, fun x b hx hb h5 hst => ?_, fun x b hb hst => ?_, fun x b hx hb h64 => ?_, fun q r hq => ?_, fun x b hb => ?_⟩, liveB_congr fun x b hst => ⟨fun hb => ?_, fun hb => hold hb⟩⟩
  · rcases hcase hb with ⟨h, _⟩ | ⟨_, rfl⟩
    · exact f.use x b h hst
    · cases hst
  · rcases hcase hb with ⟨h, _⟩ | ⟨_, rfl⟩
    · exact f.poi x b h hst
    · rcases hst with h | h <;> cases h
  · rcases hcase hb with ⟨h, _⟩ | ⟨_, rfl⟩
    · exact f.nobad x b h
    · exact (by decide : (0 : Nat) ≠ 4)
  · rcases hcase hb with ⟨h, _⟩ | ⟨_, rfl⟩
    · exact f.fullF x b (fun h => h) h h5 hst
    · have := (small_at h5).2.1
      have : s ≤ 32 := this
      omega
  · rcases hcase hb with ⟨h, _⟩ | ⟨_, rfl⟩
    · exact f.fullL x b h hst
    · cases hst
  · rcases hcase hb with ⟨h, _⟩ | ⟨h, rfl⟩
    · exact f.large x b (fun h => h) h h64
    · exact absurd h hx
  · have hq : putT A.T p (s / 64) 6 (s / 64) q = some r := hq
    unfold putT at hq
    split at hq
    · cases hq
      refine ⟨⟨s, 0, 0⟩, updO_eq _ _ _, hl.symm, fun h5 => ?_⟩
      have := (small_at h5).2.1
      have : s ≤ 32 := this
      omega
    · obtain ⟨b, h1, h2, h3⟩ := f.page q r hq
      refine ⟨b, hold h1, h2, fun h5 j hj => ?_⟩
      obtain ⟨d, e1, e2⟩ := h3 h5 j hj
      exact ⟨d, hold e1, e2⟩
  · rcases hcase hb with ⟨h, _⟩ | ⟨_, rfl⟩
    · exact f.sz x b h
    · exact hS
  · rcases hcase hb with ⟨h, _⟩ | ⟨_, rfl⟩
    · exact h
    · cases hst
/-- sizes stand where a block is turned -/
theorem page_upd {B : Nat → Option BlkT} {x : Nat} {b b' : BlkT} (hb : B x = some b) (hs : b'.size = b.size) {T : Nat → Option RunT}
    (h : ∀ p r, T p = some r → ∃ b, B (64 * r.1) = some b ∧ r.2.1 = runLenN b.size ∧ (small5 b.size → ∀ j, j < 64 / b.size → ∃ d, B (64 * r.1 + j * b.size) = some d ∧ d.size = b.size)) :
    ∀ p r, T p = some r → ∃ b, updO B x (some b') (64 * r.1) = some b ∧ r.2.1 = runLenN b.size ∧ (small5 b.size → ∀ j, j < 64 / b.size → ∃ d, updO B x (some b') (64 * r.1 + j * b.size) = some d ∧ d.size = b.size) := by
  have up : ∀ {y : Nat} {d : BlkT}, B y = some d → ∃ d', updO B x (some b') y = some d' ∧ d'.size = d.size := fun {y d} hd => by
    by_cases e : y = x
    · subst e
      rw [hb] at hd
      cases hd
      exact ⟨b', updO_eq _ _ _, hs⟩
    · exact ⟨d, (updO_ne _ _ e).trans hd, rfl⟩
  intro p r hr
  obtain ⟨d, h1, h2, h3⟩ := h p r hr
  obtain ⟨d', e1, e2⟩ := up h1
  refine ⟨d', e1, by rw [e2]; exact h2, fun h5 j hj => ?_⟩
  rw [e2] at h5 hj ⊢
  obtain ⟨k, f1, f2⟩ := h3 h5 j hj
  obtain ⟨k', g1, g2⟩ := up f1
  exact ⟨k', g1, g2.trans f2⟩
theorem upd_case {B : Nat → Option BlkT} {x y : Nat} {b d : BlkT} (h : updO B x (some b) y = some d) : (y = x ∧ d = b) ∨ (y ≠ x ∧ B y = some d) := by
  unfold updO at h
  split at h
  · next e => cases h; exact .inl ⟨e, rfl⟩
  · next e => exact .inr ⟨e, h⟩
end
end Go.Proofs.Ytfiddodlpppdhaa

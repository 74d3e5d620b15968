/- arena's page and great compute what they say. -/
import Derived.Test.YtfiddodlpppdhaaAsFirst
namespace Go.Proofs.Ytfiddodlpppdhaa
open Go.RowKit Go.Maps
set_option linter.unusedVariables false
section
variable {w w' : World} {B : Nat → Prop} {pa K : Nat} {I : ArIds} {own : Nat → Nat} {A : Ar}
/-- a row pushed -/
theorem ArAt.pushed (h : ArAt w pa I own K A) {c : Nat} (hc : c < 5) {l : List Int} {x : Nat} (hx : A.F c x = false) (hn : l.Nodup) (hm : ∀ y : Int, y ∈ l ↔ ∃ k : Nat, y = (k : Int) ∧ A.F c k = true)
    (hp : PushDone w pa (4 + c) 57 (arCells I A) (I.rv c).ownBlock (l ++ [(x : Int)]) w') : ∃ v, ArAt w' pa { I with rv := fun d => if d = c then v else I.rv d } (newOwn own w (6 + c)) K { A with F := updF A.F c x true } ∧ Keeps (pa :: (I.rv c).ownBlock.toList) w w' := by
  obtain ⟨l', v, q', h1, h2, h3, h4, h5⟩ := hp
  have hnx : (x : Int) ∉ l := fun he => by
    obtain ⟨k, e, hf⟩ := (hm _).1 he
    obtain rfl : x = k := by omega
    rw [hx] at hf
    cases hf
  have hn2 : l'.Nodup := h2.nodup_iff.2 (by
    rw [List.nodup_append]
    exact ⟨hn, by simp, fun a ha b hb => by
      simp only [List.mem_singleton] at hb
      rintro rfl
      exact hnx (hb ▸ ha)⟩)
  have key := h.turnRow hc h1 h4 h5 h3 hn2 (fun y => updF A.F c x true c y) fun y => by
    have e : y ∈ l' ↔ y ∈ l ++ [(x : Int)] := h2.mem_iff
    rw [List.mem_append, hm y, List.mem_singleton] at e
    rw [e]
    unfold updF
    constructor
    · rintro (⟨k, rfl, hf⟩ | rfl)
      · exact ⟨k, rfl, by split; rfl; exact hf⟩
      · exact ⟨x, rfl, by rw [if_pos ⟨rfl, rfl⟩]⟩
    · rintro ⟨k, rfl, hf⟩
      by_cases hk : k = x
      · exact .inr (by rw [hk])
      · rw [if_neg (fun hh => hk hh.2)] at hf
        exact .inl ⟨k, rfl, hf⟩
  refine ⟨v, ?_, h5⟩
  have e : (fun d y => if d = c then updF A.F c x true c y else A.F d y) = updF A.F c x true := by
    funext d y
    by_cases hd : d = c
    · subst hd; rw [if_pos rfl]
    · rw [if_neg hd]; unfold updF; rw [if_neg (fun hh => hd hh.1)]
  rw [e] at key
  exact key
/-- a page of small blocks, so many of them laid -/
def pageS (A : Ar) (c s p j : Nat) : Ar := { A with T := putT A.T p 1 ((c : Int) + 1) 1, B := pageB A.B p s j, F := pageF A.F c p s j }
/-- the block that comes next -/
theorem page_in {p s j x : Nat} (hs : 0 < s) (hx : x ≠ 64 * p + j * s) : (64 * p ≤ x ∧ x < 64 * p + (j + 1) * s ∧ (x - 64 * p) % s = 0) ↔ (64 * p ≤ x ∧ x < 64 * p + j * s ∧ (x - 64 * p) % s = 0) := by
  have e1 : (j + 1) * s = j * s + s := Nat.succ_mul j s
  constructor
  · rintro ⟨h1, h2, h3⟩
    refine ⟨h1, ?_, h3⟩
    have e := Nat.div_add_mod (x - 64 * p) s
    rw [h3] at e
    have h4 : (x - 64 * p) / s < j + 1 := (Nat.div_lt_iff_lt_mul hs).2 (by omega)
    have h5 : (x - 64 * p) / s ≠ j := fun h => hx (by rw [h, Nat.mul_comm] at e; omega)
    have h6 : ((x - 64 * p) / s + 1) * s ≤ j * s := Nat.mul_le_mul_right s (by omega)
    have e2 : ((x - 64 * p) / s + 1) * s = (x - 64 * p) / s * s + s := Nat.succ_mul _ s
    have e3 : s * ((x - 64 * p) / s) = (x - 64 * p) / s * s := Nat.mul_comm _ _
    omega
  · rintro ⟨h1, h2, h3⟩
    exact ⟨h1, by omega, h3⟩
theorem page_at_ (p s j : Nat) (hs : 0 < s) : 64 * p ≤ 64 * p + j * s ∧ 64 * p + j * s < 64 * p + (j + 1) * s ∧ (64 * p + j * s - 64 * p) % s = 0 := by
  have e1 : (j + 1) * s = j * s + s := Nat.succ_mul j s
  refine ⟨by omega, by omega, ?_⟩
  rw [Nat.add_sub_cancel_left]
  exact Nat.mul_mod_left j s
theorem pageB_zero (B : Nat → Option BlkT) (p s : Nat) : pageB B p s 0 = B := by
  funext x; unfold pageB; rw [if_neg (by omega)]
theorem pageF_zero (F : Nat → Nat → Bool) (c p s : Nat) : pageF F c p s 0 = F := by
  funext d x; unfold pageF; rw [if_neg (by omega)]
theorem pageB_succ (B : Nat → Option BlkT) (p s j : Nat) (hs : 0 < s) : pageB B p s (j + 1) = updO (pageB B p s j) (64 * p + j * s) (some ⟨s, 0, 0⟩) := by
  funext x
  unfold updO
  by_cases hx : x = 64 * p + j * s
  · subst hx
    rw [if_pos rfl]; unfold pageB; rw [if_pos (page_at_ p s j hs)]
  · rw [if_neg hx]
    unfold pageB
    by_cases h : 64 * p ≤ x ∧ x < 64 * p + j * s ∧ (x - 64 * p) % s = 0
    · rw [if_pos h, if_pos ((page_in hs hx).2 h)]
    · rw [if_neg h, if_neg (fun h' => h ((page_in hs hx).1 h'))]
theorem pageF_succ (F : Nat → Nat → Bool) (c p s j : Nat) (hs : 0 < s) : pageF F c p s (j + 1) = updF (pageF F c p s j) c (64 * p + j * s) true := by
  funext d x
  unfold updF
  by_cases hx : d = c ∧ x = 64 * p + j * s
  · obtain ⟨rfl, rfl⟩ := hx
    rw [if_pos ⟨rfl, rfl⟩]; unfold pageF; rw [if_pos ⟨rfl, page_at_ p s j hs⟩]
  · rw [if_neg hx]
    unfold pageF
    by_cases hd : d = c
    · have hx' : x ≠ 64 * p + j * s := fun e => hx ⟨hd, e⟩
      by_cases h : 64 * p ≤ x ∧ x < 64 * p + j * s ∧ (x - 64 * p) % s = 0
      · rw [if_pos ⟨hd, (page_in hs hx').2 h⟩, if_pos ⟨hd, h⟩]
      · rw [if_neg (fun h' => h ((page_in hs hx').1 h'.2)), if_neg (fun h' => h h'.2)]
    · rw [if_neg (fun h' => hd h'.1), if_neg (fun h' => hd h'.1)]
theorem ArOk.notIn (ok : ArOk A) {p : Nat} (hp : A.T p = none) {x : Nat} {b : BlkT} (hb : A.B x = some b) : x / 64 ≠ p := fun e => by
  have := ok.tab x b hb
  rw [e, hp] at this
  cases this
/-- of sizes of small blocks -/
theorem small_at {s : Nat} (h : small5 s) : 0 < s ∧ s ≤ 32 ∧ 64 % s = 0 ∧ 64 / s * s = 64 ∧ runLenN s = 1 ∧ clsN s < 5 := by
  unfold small5 at h
  rcases h with rfl | rfl | rfl | rfl | rfl <;> decide
theorem page_div {p s k x : Nat} (hk : k * s ≤ 64) (h : 64 * p ≤ x ∧ x < 64 * p + k * s ∧ (x - 64 * p) % s = 0) : x / 64 = p := by omega
theorem ArOk.pageS (ok : ArOk A) {s p j : Nat} (hs : small5 s) (hp0 : 1 ≤ p) (hpN : p < A.N) (hT : A.T p = none) (hj : j * s ≤ 64) : ArOk (pageS A (clsN s) s p j) := by
  obtain ⟨s1, s2, s3, s4, s5, s6⟩ := small_at hs
  have hne : ∀ x b, A.B x = some b → pageB A.B p s j x = some b := fun x b hb => by
    unfold pageB
    rw [if_neg (fun h => ok.notIn hT hb (page_div hj h))]
    exact hb
  have hnew : ∀ x b, pageB A.B p s j x = some b → (A.B x = some b ∧ ¬ (64 * p ≤ x ∧ x < 64 * p + j * s ∧ (x - 64 * p) % s = 0)) ∨ ((64 * p ≤ x ∧ x < 64 * p + j * s ∧ (x - 64 * p) % s = 0) ∧ b = ⟨s, 0, 0⟩) := fun x b hb => by
    unfold pageB at hb
    split at hb
    · next h => exact .inr ⟨h, by cases hb; rfl⟩
    · next h => exact .inl ⟨hb, h⟩
  have hmod : ∀ x, (64 * p ≤ x ∧ x < 64 * p + j * s ∧ (x - 64 * p) % s = 0) → x % s = 0 ∧ x + s ≤ 64 * p + 64 := fun x h => by
    unfold small5 at hs
    rcases hs with rfl | rfl | rfl | rfl | rfl <;> omega
  refine ⟨ok.n, fun x b hb => ?_, fun d x hx => ?_, fun x n hx => ?_, ok.nodup, fun x b hb => ?_, ?_, runsOK_put ok.runs _ (K := 1) ⟨by omega, fun j j1 j2 => ?_⟩ (Nat.le_refl _)⟩
  · rcases hnew x b hb with ⟨h, _⟩ | ⟨h, rfl⟩
    · exact ok.blk x b h
    · have := hmod x h
      refine ⟨by omega, ?_, Nat.zero_le _, .inl ⟨hs, this.1⟩, Nat.zero_le _⟩
      show x + s ≤ 64 * A.N
      omega
  · have hx : pageF A.F (clsN s) p s j d x = true := hx
    unfold pageF at hx
    split at hx
    · next h =>
      refine ⟨⟨s, 0, 0⟩, ?_, hs, h.1.symm, .inl rfl⟩
      show pageB A.B p s j x = _
      unfold pageB
      rw [if_pos h.2]
    · obtain ⟨b, h1, h2⟩ := ok.free d x hx
      exact ⟨b, hne x b h1, h2⟩
  · obtain ⟨k, b, h1, h2, h3⟩ := ok.line x n hx
    exact ⟨k, b, h1, hne k b h2, h3⟩
  · show putT A.T p 1 ((clsN s : Int) + 1) 1 (x / 64) = _
    unfold putT
    rcases hnew x b hb with ⟨h, _⟩ | ⟨h, rfl⟩
    · have := ok.notIn hT h
      rw [if_neg (by omega)]
      exact ok.tab x b h
    · have e := page_div hj h
      rw [if_pos (by omega), e, s5]
  · obtain ⟨l, h1, h2, h3⟩ := ok.badn
    refine ⟨l, h1, h2, fun x hx => ?_⟩
    obtain ⟨k, b, e1, e2, e3⟩ := h3 x hx
    exact ⟨k, b, e1, hne k b e2, e3⟩
  · obtain rfl : j = p := by omega
    unfold usedB
    rw [hT]
    simp
    omega
end
end Go.Proofs.Ytfiddodlpppdhaa

/- line's calls on a line that was made behind a world. -/
import Derived.Test.YtkfgpgllpegleaaLineAlive
import Derived.Test.YtkfgpgllpegleaaBits
namespace Go.Proofs.Ytkfgpgllpegleaa
open Go.RowKit
set_option linter.unusedVariables false

theorem and_small (x : Int) (m : Nat) (hm : m < 4611686018427387904) : ∃ k : Nat, k ≤ m ∧ bits .and .i64 x (m : Int) = k := by
  refine ⟨(BitVec.ofInt 64 x).toNat &&& m, Nat.and_le_right, ?_⟩
  show IntKind.i64.wrap ((BitVec.ofInt 64 x &&& BitVec.ofInt 64 (m : Int)).toNat : Int) = _
  rw [BitVec.toNat_and, ofInt_u64 m (by omega)]
  have : (BitVec.ofInt 64 x).toNat &&& m ≤ m := Nat.and_le_right
  rw [IntKind.wrap_i64]
  omega
theorem and15 (x : Int) : ∃ k : Nat, k ≤ 15 ∧ bits .and .i64 x 15 = k := and_small x 15 (by decide)
theorem and31 (x : Int) : ∃ k : Nat, k ≤ 31 ∧ bits .and .i64 x 31 = k := and_small x 31 (by decide)

/-- what a new line's Add does -/
def AddLN (B : Nat) (w0 : World) (p bud : Nat) (l : List (Int × Nat)) (en : Ending) (w' : World) : Prop :=
  ∃ a c, en = .returned (.slice a (goes bud l).length c) ∧ RowS w' 1 (.slice a (goes bud l).length c) (goes bud l).length (intCells (goes bud l)) ∧ LN B w0 p bud (stays bud l) w'
theorem LN.of_new {w0 w : World} {bud : Nat} {e : Ending} (h : SomeLine bud w0 e w) : ∃ p, e = .returned (.pointer (some ⟨p, 0, none⟩)) ∧ LN w0.heap.size w0 p bud [] w := by
  obtain ⟨p, he, h1, h2, h3⟩ := h
  exact ⟨p, he, ⟨none, h1, fun _ h => by cases h⟩, h2, h3, h3.size⟩
theorem LN.weaken {B : Nat} {w0 w1 w : World} {p bud : Nat} {l : List (Int × Nat)} (h : LN w1.heap.size w1 p bud l w) (hb : Below B w0 w1) (hB : B ≤ w1.heap.size) : LN B w0 p bud l w := by
  obtain ⟨⟨q, h1, h2⟩, h3, h4, h5⟩ := h
  exact ⟨⟨q, h1, fun g hg => Nat.le_trans hB (h2 g hg)⟩, Nat.le_trans hB h3, hb.trans (h4.mono hB), Nat.le_trans hB h5⟩
theorem LN.keeps {B : Nat} {w0 w w' : World} {p bud : Nat} {q : Option Nat} {l l' : List (Int × Nat)} (h : LN B w0 p bud l w) (hq : ∀ g, q = some g → B ≤ g) (k : Keeps (p :: q.toList) w w') (q' : Option Nat) (hl : LineAt w' p q' bud l') (hq' : q' = q ∨ ∃ g, q' = some g ∧ w.heap.size ≤ g) : LN B w0 p bud l' w' := by
  obtain ⟨-, h3, h4, h5⟩ := h
  refine ⟨⟨q', hl, fun g hg => ?_⟩, h3, below_keeps h4 k h5 (fun g hm => ?_), Nat.le_trans h5 k.size⟩
  · rcases hq' with h | ⟨g', h, h6⟩
    · exact hq g (by rw [← h, hg])
    · rw [hg] at h; cases h; exact Nat.le_trans h5 h6
  · rcases List.mem_cons.1 hm with rfl | hm
    · exact h3
    · exact hq g (by simpa using hm)
theorem addLN {B : Nat} {w0 w : World} {p bud : Nat} {l : List (Int × Nat)} (a : Int) (m : Nat) (h : LN B w0 p bud l w) (hl : l.length + 1 ≤ 1048576) (hmn : m ≤ 1073741824) :
    Calls Try.prog 25 #[.pointer (some ⟨p, 0, none⟩), .int .i64 a, .int .i64 (m : Nat)] w (AddLN B w0 p bud (l ++ [(a, m)])) := by
  obtain ⟨q, h1, h2⟩ := h.ex
  refine (add_line a m w h1 hl hmn).mono ?_
  rintro e w' ⟨v, q', rfl, hv, -, hl, hq, hk⟩
  obtain ⟨a1, k1, rfl, _⟩ := hv.read
  exact ⟨a1, k1, rfl, hv, h.keeps h2 hk q' hl hq⟩
/-- what a new line's Flush does -/
def FlushLN (B : Nat) (w0 : World) (p bud : Nat) (l : List (Int × Nat)) (en : Ending) (w' : World) : Prop :=
  ∃ a c, en = .returned (.slice a (l.map (·.1)).length c) ∧ RowS w' 1 (.slice a (l.map (·.1)).length c) (l.map (·.1)).length (intCells (l.map (·.1))) ∧ LN B w0 p bud [] w'
theorem flushLN {B : Nat} {w0 w : World} {p bud : Nat} {l : List (Int × Nat)} (h : LN B w0 p bud l w) :
    Calls Try.prog 29 #[.pointer (some ⟨p, 0, none⟩)] w (FlushLN B w0 p bud l) := by
  obtain ⟨q, h1, h2⟩ := h.ex
  refine (flush_any w h1).mono ?_
  rintro e w' ⟨v, rfl, hv, -, hl, hk⟩
  obtain ⟨a1, k1, rfl, _⟩ := hv.read
  exact ⟨a1, k1, rfl, hv, h.keeps h2 (hk.mono fun x hx => List.mem_cons.2 (.inl (List.mem_singleton.1 hx))) q hl (.inl rfl)⟩
theorem hasLN {B : Nat} {w0 w : World} {p bud : Nat} {l : List (Int × Nat)} (a : Int) (h : LN B w0 p bud l w) :
    Calls Try.prog 30 #[.pointer (some ⟨p, 0, none⟩), .int .i64 a] w fun e w' => e = .returned (.bool (hasL l a)) ∧ LN B w0 p bud l w' := by
  obtain ⟨q, h1, h2⟩ := h.ex
  refine (hasLine_any a w h1).mono ?_
  rintro e w' ⟨rfl, hb⟩
  exact ⟨rfl, h.below hb⟩
theorem wordsLN {B : Nat} {w0 w : World} {p bud : Nat} {l : List (Int × Nat)} (h : LN B w0 p bud l w) :
    Calls Try.prog 26 #[.pointer (some ⟨p, 0, none⟩)] w fun e w' => e = .returned (.int .i64 (sumL l : Nat)) ∧ w = w' := by
  obtain ⟨q, h1, h2⟩ := h.ex
  exact words_any w h1
theorem stays_len (bud : Nat) : ∀ l, (stays bud l).length ≤ l.length
  | [] => Nat.le_refl _
  | x :: r => by
    unfold stays
    have := stays_len bud r
    split <;> simp <;> omega
/-- what an empty line says of one that fits -/
theorem fits_one (a : Int) (bud : Nat) : goes bud ([] ++ [(a, bud)]) = [] ∧ stays bud ([] ++ [(a, bud)]) = [(a, bud)] := goes_stop (by simp [sumL])
end Go.Proofs.Ytkfgpgllpegleaa

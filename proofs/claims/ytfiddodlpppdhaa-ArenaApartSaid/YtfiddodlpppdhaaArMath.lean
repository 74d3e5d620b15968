/- Plain: what an arena is, and what its methods do. -/
import Derived.Test.YtfiddodlpppdhaaArPagesGive
import Derived.Test.YtfiddodlpppdhaaSizes
import Derived.Test.YtfiddodlpppdhaaArGuard
import Derived.Test.YtfiddodlpppdhaaLine
import Derived.Test.YtfiddodlpppdhaaLineAdd
namespace Go.Proofs.Ytfiddodlpppdhaa
open Go.RowKit Go.Maps
set_option linter.unusedVariables false
/-- a block: its length, how many words were asked for, its state (0 fresh, 1 in use, 2 waits, 3 free, 4 bad) -/
structure BlkT where
  size : Nat
  asked : Nat
  st : Nat
structure Ar where
  N : Nat
  wd : Nat → Int
  T : Nat → Option RunT
  bud : Nat
  L : List (Int × Nat)
  B : Nat → Option BlkT
  F : Nat → Nat → Bool
  bad : Nat
/-- the place of a size of small blocks -/
def clsN (s : Nat) : Nat := if s ≤ 2 then 0 else if s ≤ 4 then 1 else if s ≤ 8 then 2 else if s ≤ 16 then 3 else if s ≤ 32 then 4 else 5
def small5 (s : Nat) : Prop := s = 2 ∨ s = 4 ∨ s = 8 ∨ s = 16 ∨ s = 32
def updO {α : Type} (f : Nat → Option α) (x : Nat) (v : Option α) : Nat → Option α := fun y => if y = x then v else f y
def updF (F : Nat → Nat → Bool) (c x : Nat) (b : Bool) : Nat → Nat → Bool := fun d y => if d = c ∧ y = x then b else F d y
/-- how many pages a block's run has -/
def runLenN (s : Nat) : Nat := if s ≤ 32 then 1 else s / 64
/-- what holds of every arena -/
structure ArOk (A : Ar) : Prop where
  n : 1 ≤ A.N ∧ A.N ≤ 4096
  blk : ∀ x b, A.B x = some b → 64 ≤ x ∧ x + b.size ≤ 64 * A.N ∧ b.asked ≤ b.size ∧ ((small5 b.size ∧ x % b.size = 0) ∨ (64 ≤ b.size ∧ b.size % 64 = 0 ∧ x % 64 = 0)) ∧ b.st ≤ 4
  free : ∀ c x, A.F c x = true → ∃ b, A.B x = some b ∧ small5 b.size ∧ clsN b.size = c ∧ (b.st = 0 ∨ b.st = 3)
  line : ∀ x n, (x, n) ∈ A.L → ∃ (k : Nat) (b : BlkT), x = (k : Int) ∧ A.B k = some b ∧ b.st = 2 ∧ b.size = n
  nodup : (A.L.map (·.1)).Nodup
  tab : ∀ x b, A.B x = some b → A.T (x / 64) = some (x / 64, runLenN b.size, (clsN b.size : Int) + 1)
  badn : ∃ l : List Int, l.Nodup ∧ l.length = A.bad ∧ ∀ x ∈ l, ∃ (k : Nat) (b : BlkT), x = (k : Int) ∧ A.B k = some b ∧ b.st = 4
  runs : RunsOK A.N A.T
theorem runsOK_put {n : Nat} {T : Nat → Option RunT} (h : RunsOK n T) {r K : Nat} (mk : Int) (hr : runP n (usedB T) K r) (hK : 1 ≤ K) : RunsOK n (putT T r K mk K) := by
  have h1 : 1 ≤ r := by
    rcases Nat.eq_zero_or_pos r with rfl | q
    · have := hr.2 0 (Nat.le_refl _) (by omega)
      simp [usedB] at this
    · exact q
  intro i a k mk' hi
  unfold putT at hi
  split at hi
  · next hin =>
    cases hi
    exact ⟨h1, hin.1, hin.2, hr.1, fun j h1 h2 => by unfold putT; rw [if_pos ⟨h1, h2⟩]⟩
  · next hout =>
    obtain ⟨q1, q2, q3, q4, q5⟩ := h i a k mk' hi
    refine ⟨q1, q2, q3, q4, fun j j1 j2 => ?_⟩
    unfold putT
    rw [if_neg ?_]
    · exact q5 j j1 j2
    · rintro ⟨z1, z2⟩
      have := hr.2 j z1 z2
      unfold usedB at this
      rw [q5 j j1 j2] at this
      simp at this
theorem runsOK_cut {n : Nat} {T : Nat → Option RunT} (h : RunsOK n T) {a k : Nat} {mk : Int} (hr : T a = some (a, k, mk)) : RunsOK n (cutT T a k) := by
  obtain ⟨r1, r2, r3, r4, r5⟩ := h a a k mk hr
  intro i a' k' mk' hi
  unfold cutT at hi
  split at hi
  · cases hi
  · next hout =>
    obtain ⟨q1, q2, q3, q4, q5⟩ := h i a' k' mk' hi
    refine ⟨q1, q2, q3, q4, fun j j1 j2 => ?_⟩
    unfold cutT
    rw [if_neg ?_]
    · exact q5 j j1 j2
    · rintro ⟨z1, z2⟩
      have e1 := q5 j j1 j2
      rw [r5 j z1 z2] at e1
      cases e1
      omega
/-- are a block's words as nobody wrote them? -/
def wholeA (A : Ar) (x : Nat) (b : BlkT) : Prop := b.st = 0 ∨ ∀ i, i < b.size → A.wd (x + i) = ps ((x + i : Nat) : Int)
/-- the least that is free of a place -/
def LeastF (A : Ar) (c x : Nat) : Prop := A.F c x = true ∧ ∀ y, A.F c y = true → x ≤ y
/-- how first ends -/
inductive FirstR (c : Nat) : Ar → Option Nat → Ar → Prop
  | none (A : Ar) : (∀ x, A.F c x = false) → FirstR c A Option.none A
  | hit (A : Ar) (x : Nat) (b : BlkT) : LeastF A c x → A.B x = some b → wholeA A x b → FirstR c A (some x) { A with F := updF A.F c x false }
  | miss (A A' : Ar) (x : Nat) (b : BlkT) (r : Option Nat) : LeastF A c x → A.B x = some b → ¬ wholeA A x b → FirstR c { A with F := updF A.F c x false, B := updO A.B x (some { b with st := 4 }), bad := A.bad + 1 } r A' → FirstR c A r A'
/-- the blocks of a page of small blocks -/
def pageB (B : Nat → Option BlkT) (p s k : Nat) : Nat → Option BlkT := fun x => if 64 * p ≤ x ∧ x < 64 * p + k * s ∧ (x - 64 * p) % s = 0 then some ⟨s, 0, 0⟩ else B x
def pageF (F : Nat → Nat → Bool) (c p s k : Nat) : Nat → Nat → Bool := fun d x => if d = c ∧ 64 * p ≤ x ∧ x < 64 * p + k * s ∧ (x - 64 * p) % s = 0 then true else F d x
/-- a page of small blocks taken -/
def pageA (A : Ar) (c s p : Nat) : Ar := { A with T := putT A.T p 1 ((c : Int) + 1) 1, B := pageB A.B p s (64 / s), F := pageF A.F c p s (64 / s) }
/-- a large block taken -/
def greatA (A : Ar) (s p : Nat) : Ar := { A with T := putT A.T p (s / 64) 6 (s / 64), B := updO A.B (64 * p) (some ⟨s, 0, 0⟩) }
/-- how take ends -/
inductive TakeR (c s : Nat) : Ar → Option Nat → Ar → Prop
  | great (A : Ar) (p : Nat) : c = 5 → RunIs A.N (usedB A.T) (s / 64) (p : Int) → TakeR c s A (some (64 * p)) (greatA A s p)
  | noGreat (A : Ar) : c = 5 → RunIs A.N (usedB A.T) (s / 64) (-1) → TakeR c s A Option.none A
  | first (A A' : Ar) (x : Nat) : c < 5 → FirstR c A (some x) A' → TakeR c s A (some x) A'
  | noPage (A A' : Ar) : c < 5 → FirstR c A Option.none A' → RunIs A'.N (usedB A'.T) 1 (-1) → TakeR c s A Option.none A'
  | page (A A' A2 : Ar) (p : Nat) (r : Option Nat) : c < 5 → FirstR c A Option.none A' → RunIs A'.N (usedB A'.T) 1 (p : Int) → FirstR c (pageA A' c s p) r A2 → TakeR c s A r A2
/-- a block that waited is free -/
def openA (A : Ar) (x : Nat) : Ar := match A.B x with
  | Option.none => A
  | some b => if b.size ≤ 32 then { A with B := updO A.B x (some { b with st := 3 }), F := updF A.F (clsN b.size) x true } else { A with B := updO A.B x Option.none, T := givenT A.T ((x / 64 : Nat) : Int) }
def opensA (A : Ar) : List Int → Ar
  | [] => A
  | x :: l => opensA (openA A x.toNat) l
/-- a block given out -/
def giveA (A : Ar) (x n s : Nat) : Ar := { A with B := updO A.B x (some ⟨s, n, 1⟩), wd := fun i => if x ≤ i ∧ i < x + n then 0 else if x + n ≤ i ∧ i < x + s then cn ((i : Nat) : Int) else A.wd i }
def clsI (n : Nat) : Nat := (clsOf (n : Int)).toNat
def szI (n : Nat) : Nat := (szOf (n : Int)).toNat
/-- how Alloc of so many words ends, that may be -/
inductive AllocR (n : Nat) : Ar → Option Nat → Ar → Prop
  | at_ (A A' : Ar) (x : Nat) : TakeR (clsI n) (szI n) A (some x) A' → AllocR n A (some x) (giveA A' x n (szI n))
  | again (A A' A2 : Ar) (x : Nat) : TakeR (clsI n) (szI n) A Option.none A' → TakeR (clsI n) (szI n) (opensA { A' with L := [] } (A'.L.map (·.1))) (some x) A2 → AllocR n A (some x) (giveA A2 x n (szI n))
  | full (A A' A2 : Ar) : TakeR (clsI n) (szI n) A Option.none A' → TakeR (clsI n) (szI n) (opensA { A' with L := [] } (A'.L.map (·.1))) Option.none A2 → AllocR n A Option.none A2
/-- did nobody write behind what was asked for? -/
def keptA (A : Ar) (x : Nat) (b : BlkT) : Prop := ∀ i, b.asked ≤ i → i < b.size → A.wd (x + i) = cn ((x + i : Nat) : Int)
/-- a block that is in use taken back -/
def freeA (A : Ar) (x : Nat) (b : BlkT) : Ar :=
  let A1 : Ar := { A with wd := fun i => if x ≤ i ∧ i < x + b.size then ps ((i : Nat) : Int) else A.wd i, B := updO A.B x (some { b with st := 2 }) }
  opensA { A1 with L := stays A.bud (A.L ++ [((x : Int), b.size)]) } (goes A.bud (A.L ++ [((x : Int), b.size)]))
/-- a new arena -/
def newA (N bud : Nat) : Ar := ⟨N, fun _ => 0, fun _ => Option.none, bud, [], fun _ => Option.none, fun _ _ => false, 0⟩
end Go.Proofs.Ytfiddodlpppdhaa

/- pages' Give computes what it says. -/
import Derived.Test.YtfiddodlpppdhaaArPagesTake
namespace Go.Proofs.Ytfiddodlpppdhaa
open Go.RowKit Go.Maps
set_option linter.unusedVariables false

/-- some pages are given back -/
def cutT (T : Nat → Option RunT) (a j : Nat) : Nat → Option RunT := fun i => if a ≤ i ∧ i < a + j then none else T i
theorem cutT_zero (T : Nat → Option RunT) (a : Nat) : cutT T a 0 = T := by
  funext i
  unfold cutT
  rw [if_neg (by omega)]
/-- the run of a number -/
def atT (T : Nat → Option RunT) (x : Int) : Option RunT := if 0 ≤ x then T x.toNat else none
theorem mapT_atT (T : Nat → Option RunT) (x : Int) : mapT T x = (atT T x).map runV := by
  unfold mapT atT
  split <;> rfl
/-- may a number be given back? -/
def canGive (T : Nat → Option RunT) (x : Int) : Bool := match atT T x with
  | some r => decide ((r.1 : Int) = x)
  | none => false
/-- behind a Give -/
def givenT (T : Nat → Option RunT) (x : Int) : Nat → Option RunT := match atT T x with
  | some r => if (r.1 : Int) = x then cutT T r.1 r.2.1 else T
  | none => T
section
variable {p s g m n c : Nat} {T : Nat → Option RunT}
/-- what Give does -/
def GiveDone (p s g m n c : Nat) (T : Nat → Option RunT) (b : Bool) (w : World) (en : Ending) (w' : World) : Prop :=
  en = .returned (.bool b) ∧ PagesAt w' p s g m n c T ∧ Keeps [g, m] w w'
/-- where Give stands -/
structure CutAt (w : World) (p s g m n c : Nat) (T : Nat → Option RunT) (a j : Nat) (wr : World) : Prop where
  head : ∃ ty, wr.heap[p]? = some (.cells #[.int .i64 (n : Nat), .pointer (some ⟨s, 0, none⟩), .map (some m)] ty (0, 0))
  set : SetAt wr s g n (usedB (cutT T a j))
  runs : MapAt Try.prog wr 3 m c (mapT (cutT T a j))
  keep : Keeps [g, m] w wr
theorem PagesAt.cut {w : World} (h : PagesAt w p s g m n c T) (a : Nat) (o : Obj) : CutAt w p s g m n c T a 0 (w.alloc o) := by
  have h' := h.below ((Below.refl _ _).alloc (Nat.le_refl _) o)
  exact ⟨h'.head, by rw [cutT_zero]; exact h'.set, by rw [cutT_zero]; exact h'.runs, (Keeps.refl _ _).alloc o⟩
theorem CutAt.done {w w' : World} {a k : Nat} {mk : Int} (h : PagesAt w p s g m n c T) (h' : CutAt w p s g m n c T a k w') (hr : T a = some (a, k, mk)) : PagesAt w' p s g m n c (cutT T a k) := by
  obtain ⟨r1, r2, r3, r4, r5⟩ := h.ok a a k mk hr
  refine ⟨h'.head, h'.set, h'.runs, h.ne, h.size, fun i a' k' mk' hi => ?_⟩
  unfold cutT at hi
  split at hi
  · cases hi
  · next hout =>
    obtain ⟨q1, q2, q3, q4, q5⟩ := h.ok i a' k' mk' hi
    refine ⟨q1, q2, q3, q4, fun j j1 j2 => ?_⟩
    unfold cutT
    rw [if_neg ?_]
    · exact q5 j j1 j2
    · rintro ⟨z1, z2⟩
      have e1 := q5 j j1 j2
      rw [r5 j z1 z2] at e1
      cases e1
      omega
theorem CutAt.step {w wr w1 w2 : World} {a j : Nat} (h : CutAt w p s g m n c T a j wr) (ne : p ≠ s ∧ p ≠ g ∧ p ≠ m ∧ s ≠ m ∧ g ≠ m) (hj : a + j < n) (ha : 1 ≤ a)
    (h1 : SetAt w1 s g n (fun i => if ((0 : Int) ≤ ((a + j : Nat) : Int) ∧ ((a + j : Nat) : Int) < (n : Int)) ∧ i = ((a + j : Nat) : Int).toNat then false else usedB (cutT T a j) i)) (g1 : wr.grownBy w1 (some g))
    (h2 : MapAt Try.prog w2 3 m c (fun y => if y = ((a + j : Nat) : Int) then none else mapT (cutT T a j) y)) (g2 : w1.grownBy w2 (some m)) : CutAt w p s g m n c T a (j + 1) w2 := by
  have k1 : Keeps [g] wr w1 := Keeps.of_grown g1 (by simp)
  have k2 : Keeps [m] w1 w2 := Keeps.of_grown g2 (by simp)
  obtain ⟨ty, hh⟩ := h.head
  have e : ∀ i, (cutT T a (j + 1)) i = if i = a + j then none else cutT T a j i := fun i => by
    unfold cutT
    by_cases h0 : i = a + j
    · rw [if_pos (by omega), if_pos h0]
    · rw [if_neg h0]
      by_cases h1 : a ≤ i ∧ i < a + j
      · rw [if_pos (by omega), if_pos h1]
      · rw [if_neg (by omega), if_neg h1]
  refine ⟨⟨ty, k2.at (k1.at hh (by simp; omega)) (by simp; omega)⟩, ?_, ?_, ?_⟩
  · refine (h1.keeps k2 (by simp; omega) (by simp; omega)).congr fun i hi => ?_
    unfold usedB
    rw [e i]
    by_cases h0 : i = a + j
    · rw [if_pos ⟨⟨by omega, by omega⟩, by omega⟩, if_pos h0, show (i == 0) = false by simpa using (by omega : ¬ i = 0)]; rfl
    · rw [if_neg (by omega), if_neg h0]
  · refine h2.congr fun x hx => ?_
    unfold mapT
    by_cases h0 : 0 ≤ x
    · rw [if_pos h0, if_pos h0, e]
      by_cases h3 : x = ((a + j : Nat) : Int)
      · rw [if_pos h3, if_pos (by omega)]; rfl
      · rw [if_neg h3, if_neg (by omega)]
    · rw [if_neg h0, if_neg h0, if_neg (by omega)]
  · exact (h.keep.trans (k1.mono (by simp))).trans (k2.mono (by simp))
theorem pgive_none (x : Int) (w : World) (h : PagesAt w p s g m n c T) (hx : (Lit.int .i64 x).wf = true) (hT : atT T x = none) :
    Calls Try.prog 59 #[.pointer (some ⟨p, 0, none⟩), .int .i64 x] w (GiveDone p s g m n c T false w) := by
  obtain ⟨_, _, c2⟩ := h.cells
  have hl := h.runs.look_ok pg_key Try.underlying3 Try.underlying72 (pg_zero w) hx
  rw [mapT_atT, hT] at hl
  dsimp only [Option.map_none, Option.getD_none, Option.isSome_none] at hl
  have H := Lib.hid h
  clear h hx hT
  go_enter Try.func59, Try.ntmps59
  go_wp2
  go_ret
  exact ⟨rfl, H.out.below ((Below.refl _ _).alloc (Nat.le_refl _) _), (Keeps.refl _ _).alloc _⟩
theorem pgive_other (x : Int) (a k : Nat) (mk : Int) (w : World) (h : PagesAt w p s g m n c T) (hx : (Lit.int .i64 x).wf = true) (hT : atT T x = some (a, k, mk)) (hne : (a : Int) ≠ x) :
    Calls Try.prog 59 #[.pointer (some ⟨p, 0, none⟩), .int .i64 x] w (GiveDone p s g m n c T false w) := by
  obtain ⟨_, _, c2⟩ := h.cells
  have hl := h.runs.look_ok pg_key Try.underlying3 Try.underlying72 (pg_zero w) hx
  rw [mapT_atT, hT] at hl
  dsimp only [Option.map_some, Option.getD_some, Option.isSome_some, runV] at hl
  have H := Lib.hid h
  have hb : ((a : Int) != x) = true := by simpa using hne
  clear h hx hT hne
  go_enter Try.func59, Try.ntmps59
  go_wp2
  go_ret
  exact ⟨rfl, H.out.below ((Below.refl _ _).alloc (Nat.le_refl _) _), (Keeps.refl _ _).alloc _⟩
set_option maxRecDepth 100000 in
set_option maxHeartbeats 1000000 in
theorem pgive_yes (a k : Nat) (mk : Int) (w : World) (h : PagesAt w p s g m n c T) (hT : T a = some (a, k, mk)) :
    Calls Try.prog 59 #[.pointer (some ⟨p, 0, none⟩), .int .i64 (a : Nat)] w (GiveDone p s g m n c (cutT T a k) true w) := by
  obtain ⟨r1, r2, r3, r4, r5⟩ := h.ok a a k mk hT
  have hsz := h.size
  have hx : (Lit.int .i64 (a : Int)).wf = true := WalkArith.wf_i64 (by omega)
  obtain ⟨_, _, c2⟩ := h.cells
  have hl := h.runs.look_ok pg_key Try.underlying3 Try.underlying72 (pg_zero w) hx
  rw [mapT_nat, hT] at hl
  dsimp only [Option.map_some, Option.getD_some, Option.isSome_some, runV] at hl
  have H := Lib.hid h
  have HT := Lib.hid hT
  have HNE := Lib.hid h.ne
  have HP0 := Lib.hid (h.cut a (.cells #[.int .i64 (a : Nat), .int .i64 (k : Nat), .int .i64 mk] 96))
  clear h hx hT r5
  go_enter Try.func59, Try.ntmps59
  go_wp2_with fail
  go_loopw [27] (fun i wr => ∃ j : Nat, i = .int .i64 (j : Nat) ∧ j ≤ k ∧ Hid (CutAt w p s g m n c T a j wr)) (fun i _ => k - (intOf i).toNat)
  case atStart => exact ⟨0, rfl, Nat.zero_le _, HP0⟩
  case round =>
    obtain ⟨j, rfl, hj, hp⟩ := hrel
    obtain ⟨ty, hh⟩ := hp.out.head
    have d1 : wr.cell? ⟨p, 1, none⟩ = some (.pointer (some ⟨s, 0, none⟩)) := (cell_of_block hh).trans rfl
    have d2 : wr.cell? ⟨p, 2, none⟩ = some (.map (some m)) := (cell_of_block hh).trans rfl
    by_cases hlt2 : j < k
    · have HQW : Hid ((Lit.int .i64 ((a + j : Nat) : Int)).wf = true) := (show (Lit.int .i64 ((a + j : Nat) : Int)).wf = true from WalkArith.wf_i64 (by omega))
      have HJ : Hid (a + j < n) := (show a + j < n by omega)
      have HDROP := Lib.hid (drop_any ((a + j : Nat) : Int) wr hp.out.set)
      have HHH := Lib.hid hh
      have eaj : ((a + j : Nat) : Int) = (a : Int) + (j : Int) := by omega
      have HST0 := Lib.hid (fun w1 w2 => hp.out.step (w1 := w1) (w2 := w2) HNE.out HJ.out r1)
      rw [eaj] at HDROP HQW HST0
      clear hh eaj
      go_wp2_with fail
      refine HDROP.out.mono ?_
      rintro en w2 ⟨rfl, hs2, hg2⟩
      have hk2 : Keeps [g] wr w2 := Keeps.of_grown hg2 (by simp)
      have e1 : w2.cell? ⟨p, 2, none⟩ = some (.map (some m)) := (cell_of_block (hk2.at HHH.out (by have := HNE.out; simp; omega))).trans rfl
      have HM2 := Lib.hid (hp.out.runs.keeps hk2 (by have := HNE.out; simp; omega))
      have HS2 := Lib.hid hs2
      have HG2 := Lib.hid hg2
      clear hs2 hg2 hk2
      go_wp2_with (at_delete; refine wpList_drop (by rfl) (.tmp 41) (.tmp 44) 72 3 rfl 96 pg_key Try.underlying3 Try.underlying72 m c _ rfl HM2.out ((a : Int) + (j : Int)) rfl HQW.out ?_)
      intro w3 hm3 hg3
      have HST := Lib.hid (HST0.out _ _ HS2.out HG2.out hm3 hg3)
      clear hm3 hg3
      go_wp2
      go_roundw
      case rel => first | exact ⟨j + 1, by go_num, by omega, HST⟩ | ((repeat apply Exists.intro); exact ⟨⟨j + 1, by go_num, by omega, HST⟩, rfl⟩)
      case measure => simp [intOf]; omega
    · obtain rfl : k = j := by omega
      clear hlt2
      go_wp2
      go_ret
      exact ⟨rfl, CutAt.done H.out hp.out HT.out, hp.out.keep⟩
theorem pgive_any (x : Int) (w : World) (h : PagesAt w p s g m n c T) (hx : (Lit.int .i64 x).wf = true) :
    Calls Try.prog 59 #[.pointer (some ⟨p, 0, none⟩), .int .i64 x] w (GiveDone p s g m n c (givenT T x) (canGive T x) w) := by
  unfold givenT canGive
  cases hT : atT T x with
  | none => exact pgive_none x w h hx hT
  | some r =>
    obtain ⟨a, k, mk⟩ := r
    dsimp only
    by_cases he : (a : Int) = x
    · subst he
      rw [if_pos rfl, decide_eq_true rfl]
      unfold atT at hT
      rw [if_pos (by omega), Int.toNat_natCast] at hT
      exact pgive_yes a k mk w h hT
    · rw [if_neg he, decide_eq_false he]
      exact pgive_other x a k mk w h hx hT he
theorem ptake_any (a mk : Int) (w : World) (h : PagesAt w p s g m n c T) (ha : a ≤ 9223372036854775807) (hc : c ≤ 1099511627776) (hmk : (Lit.int .i64 mk).wf = true) :
    Calls Try.prog 54 #[.pointer (some ⟨p, 0, none⟩), .int .i64 a, .int .i64 mk] w (TakeDone p s g m n c T (atLeast1 a) mk w) :=
  ptake_at a (atLeast1 a) mk w h (by unfold atLeast1; omega) ha hc hmk
end
end Go.Proofs.Ytfiddodlpppdhaa

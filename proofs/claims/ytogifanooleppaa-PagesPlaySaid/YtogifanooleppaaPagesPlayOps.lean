/- Take and Give of a table and of the reference, in one answer each: for the law PagesPlay. -/
import Derived.Test.YtogifanooleppaaPagesPlayMath
namespace Go.Proofs.Ytogifanooleppaa
open Go.RowKit Go.Maps
set_option linter.unusedVariables false

theorem runIs_exists (n : Nat) (S : Nat → Bool) (K : Nat) : ∃ R, RunIs n S K R := by
  by_cases h : ∃ i, runP n S K i
  · obtain ⟨i, hi⟩ := h
    induction i using Nat.strongRecOn with
    | ind i ih =>
      by_cases h2 : ∃ j, j < i ∧ runP n S K j
      · obtain ⟨j, hj, hr⟩ := h2
        exact ih j hj hr
      · exact ⟨(i : Int), .inr ⟨i, rfl, hi, fun j hj hr => h2 ⟨j, hj, hr⟩⟩⟩
  · exact ⟨-1, .inl ⟨rfl, fun i hi => h ⟨i, hi⟩⟩⟩
/-- what is taken then -/
def takenT (T : Nat → Option RunT) (R : Int) (K : Nat) (mk : Int) : Nat → Option RunT := if R = -1 then T else putT T R.toNat K mk K
def takenL (l : List RunT) (R : Int) (K : Nat) (mk : Int) : List RunT := if R = -1 then l else l ++ [(R.toNat, K, mk)]
theorem takenL_len (l : List RunT) (R : Int) (K : Nat) (mk : Int) : (takenL l R K mk).length ≤ l.length + 1 := by
  unfold takenL
  split <;> simp
theorem same_taken {n K : Nat} {T : Nat → Option RunT} {l : List RunT} {R : Int} (h : Same n T l) (hR : RunIs n (usedB T) K R) (hK : 1 ≤ K) (mk : Int) : Same n (takenT T R K mk) (takenL l R K mk) := by
  unfold takenT takenL
  by_cases hr : R = -1
  · rw [if_pos hr, if_pos hr]; exact h
  · rw [if_neg hr, if_neg hr]
    rcases hR with ⟨h1, _⟩ | ⟨i, rfl, h2⟩
    · exact absurd h1 hr
    · rw [Int.toNat_natCast]
      exact h.take mk (.inr ⟨i, rfl, h2⟩) hK
section
variable {p s g m n c : Nat} {T : Nat → Option RunT} {q : Option Nat} {l : List RunT}
theorem tk_one (a mk R : Int) (w : World) (h : PagesAt w p s g m n c T) (ha : a ≤ 9223372036854775807) (hc : c ≤ 1099511627776) (hmk : (Lit.int .i64 mk).wf = true) (hR : RunIs n (usedB T) (atLeast1 a) R) :
    Calls Try.prog 27 #[.pointer (some ⟨p, 0, none⟩), .int .i64 a, .int .i64 mk] w fun e w' => e = .returned (.int .i64 R) ∧ PagesAt w' p s g m n (c + n) (takenT T R (atLeast1 a) mk) ∧ Keeps [g, m] w w' := by
  refine (ptake_any a mk w h ha hc hmk).mono ?_
  rintro e w' hd
  rcases hd with ⟨rfl, h1, h2⟩ | ⟨r, rfl, h1, h2, h3⟩
  · obtain rfl : R = -1 := hR.unique h1
    subst h2
    refine ⟨rfl, ?_, Keeps.refl _ _⟩
    unfold takenT
    rw [if_pos rfl]
    exact h.mono (by omega)
  · obtain rfl : R = (r : Int) := hR.unique h1
    refine ⟨rfl, ?_, h3⟩
    unfold takenT
    rw [if_neg (by omega), Int.toNat_natCast]
    have := (run_ge h1 (by unfold atLeast1; omega)).2.1
    exact h2.mono (by omega)
theorem rtk_one (a mk R : Int) (w : World) (h : RefP w p n q l) (ha : a ≤ 9223372036854775807) (hl : l.length < 1048576) (hS : Same n T l) (hR : RunIs n (usedB T) (atLeast1 a) R) :
    Calls Try.prog 28 #[.pointer (some ⟨p, 0, none⟩), .int .i64 a, .int .i64 mk] w fun e w' => e = .returned (.int .i64 R) ∧ ∃ q', RefP w' p n q' (takenL l R (atLeast1 a) mk) ∧ (∀ g, q' = some g → q = some g ∨ w.heap.size ≤ g) ∧ Keeps (p :: q.toList) w w' := by
  refine (rtake_any a (atLeast1 a) mk R w h (by unfold atLeast1; omega) ha hl (hR.congr fun i _ => (hS.used i).symm)).mono ?_
  rintro e w' ⟨rfl, hd⟩
  refine ⟨rfl, ?_⟩
  unfold takenL
  rcases hd with ⟨rfl, h1, h2⟩ | ⟨r, q', rfl, h1, h2, h3⟩
  · rw [if_pos rfl]
    exact ⟨q, h1, fun g hg => .inl hg, h2.mono (by simp)⟩
  · rw [if_neg (by omega), Int.toNat_natCast]
    refine ⟨q', h1, fun g hg => ?_, h3⟩
    rcases h2 with rfl | ⟨g', h2, hge⟩
    · exact .inl hg
    · rw [h2] at hg; cases hg; exact .inr hge
theorem rgv_one (x : Int) (w : World) (h : RefP w p n q l) (hS : Same n T l) :
    Calls Try.prog 30 #[.pointer (some ⟨p, 0, none⟩), .int .i64 x] w fun e w' => e = .returned (.bool (canGive T x)) ∧ ∃ q' l', RefP w' p n q' l' ∧ l'.length ≤ l.length ∧ Same n (givenT T x) l' ∧ (∀ g, q' = some g → q = some g ∨ w.heap.size ≤ g) ∧ Keeps (p :: q.toList) w w' := by
  refine (rgive_any x w h).mono ?_
  rintro e w' hd
  rcases hd with ⟨rfl, h1, rfl⟩ | ⟨i, r, q', rfl, h1, h2, h3, h4, h5⟩
  · obtain ⟨g1, g2⟩ := hS.no h1
    rw [g1, g2]
    exact ⟨rfl, q, l, h, Nat.le_refl _, hS, fun g hg => .inl hg, Keeps.refl _ _⟩
  · obtain ⟨g1, g2⟩ := hS.yes h1 h2
    rw [g1]
    refine ⟨rfl, q', _, h3, by simp; omega, g2, fun g hg => ?_, h5⟩
    rcases h4 with rfl | ⟨g', h4, hge⟩
    · cases hg
    · rw [h4] at hg; cases hg; exact .inr hge
end
/-- where the law stands -/
structure PlAt (B B2 B3 n tp ts tg tm op os og om rp c co : Nat) (rq : Option Nat) (T To : Nat → Option RunT) (l : List RunT) (w0 wr : World) : Prop where
  tab : PagesAt wr tp ts tg tm n c T
  oth : PagesAt wr op os og om 9 co To
  ref : RefP wr rp n rq l
  same : Same n T l
  bel : Below B w0 wr
  t1 : (B ≤ tp ∧ B ≤ ts ∧ B ≤ tg ∧ B ≤ tm) ∧ tp < B2 ∧ ts < B2 ∧ tg < B2 ∧ tm < B2
  o1 : (B2 ≤ op ∧ B2 ≤ os ∧ B2 ≤ og ∧ B2 ≤ om) ∧ op < B3 ∧ os < B3 ∧ og < B3 ∧ om < B3
  r1 : B3 ≤ rp ∧ ∀ g, rq = some g → B3 ≤ g
  le : B ≤ B2 ∧ B2 ≤ B3
  big : B3 ≤ wr.heap.size
section
variable {B B2 B3 n tp ts tg tm op os og om rp c co : Nat} {rq : Option Nat} {T To : Nat → Option RunT} {l : List RunT} {w0 wr w1 w2 : World}
theorem PlAt.below (h : PlAt B B2 B3 n tp ts tg tm op os og om rp c co rq T To l w0 wr) (hb : Below wr.heap.size wr w1) : PlAt B B2 B3 n tp ts tg tm op os og om rp c co rq T To l w0 w1 :=
  ⟨h.tab.below hb, h.oth.below hb, h.ref.below hb, h.same, h.bel.trans (hb.mono (Nat.le_trans h.le.1 (Nat.le_trans h.le.2 h.big))), h.t1, h.o1, h.r1, h.le, Nat.le_trans h.big hb.size⟩
theorem PlAt.other (h : PlAt B B2 B3 n tp ts tg tm op os og om rp c co rq T To l w0 wr) {co' : Nat} {To' : Nat → Option RunT} (ho : PagesAt w1 op os og om 9 co' To') (hk : Keeps [og, om] wr w1) : PlAt B B2 B3 n tp ts tg tm op os og om rp c co' rq T To' l w0 w1 := by
  have t1 := h.t1
  have o1 := h.o1
  have r1 := h.r1
  have le := h.le
  refine ⟨h.tab.keeps hk ?_ ?_ ?_ ?_, ho, h.ref.keeps hk ?_ (fun g hg => ?_), h.same, below_keeps h.bel hk (by have := h.big; omega) (by simp; omega), h.t1, h.o1, h.r1, h.le, Nat.le_trans h.big hk.size⟩
  all_goals first | (simp; omega) | (have := r1.2 g hg; simp; omega)
theorem PlAt.moved (h : PlAt B B2 B3 n tp ts tg tm op os og om rp c co rq T To l w0 wr) {c' : Nat} {T' : Nat → Option RunT} {l' : List RunT} {rq' : Option Nat} (ht : PagesAt w1 tp ts tg tm n c' T') (hk : Keeps [tg, tm] wr w1)
    (hr : RefP w2 rp n rq' l') (hq : ∀ g, rq' = some g → rq = some g ∨ w1.heap.size ≤ g) (hk2 : Keeps (rp :: rq.toList) w1 w2) (hs : Same n T' l') : PlAt B B2 B3 n tp ts tg tm op os og om rp c' co rq' T' To l' w0 w2 := by
  have t1 := h.t1
  have o1 := h.o1
  have r1 := h.r1
  have le := h.le
  have big := h.big
  have hs1 := hk.size
  have far : ∀ k, k < B3 → k ∉ (rp :: rq.toList) := by
    intro k hlt hm
    cases hq0 : rq with
    | none => rw [hq0] at hm; simp at hm; omega
    | some g => rw [hq0] at hm; simp at hm; have := r1.2 g hq0; omega
  refine ⟨ht.keeps hk2 (far _ (by omega)) (far _ (by omega)) (far _ (by omega)) (far _ (by omega)), (h.oth.keeps hk ?_ ?_ ?_ ?_).keeps hk2 (far _ (by omega)) (far _ (by omega)) (far _ (by omega)) (far _ (by omega)), hr, hs, below_keeps (below_keeps h.bel hk (by omega) (by simp; omega)) hk2 (by omega) (fun k hm => ?_), h.t1, h.o1, ⟨r1.1, fun g hg => ?_⟩, h.le, Nat.le_trans h.big (Nat.le_trans hk.size hk2.size)⟩
  · simp; omega
  · simp; omega
  · simp; omega
  · simp; omega
  · have : ¬ k < B3 := fun hlt => far k hlt hm
    omega
  · rcases hq g hg with hq | hq
    · exact r1.2 g hq
    · omega
end
end Go.Proofs.Ytogifanooleppaa

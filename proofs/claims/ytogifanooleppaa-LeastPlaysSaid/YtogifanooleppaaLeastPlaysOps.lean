/- the two Heaps side by side: for the law LeastPlays. -/
import Derived.Test.YtogifanooleppaaLeastQ
import Derived.Test.YtogifanooleppaaRefHeapPush
namespace Go.Proofs.Ytogifanooleppaa
open Go.RowKit Go.Maps
set_option linter.unusedVariables false

section
variable {r : Nat} {q : Option Nat} {l : List Int} {w w' : World} {T : Int → Bool}
/-- what a call of the reference leaves: the numbers of T -/
def RStep (w : World) (r : Nat) (q : Option Nat) (T : Int → Bool) (n : Nat) (w' : World) : Prop :=
  ∃ l', RDone w r q l' w' ∧ l'.Pairwise (· < ·) ∧ (∀ y, y ∈ l' ↔ T y = true) ∧ l'.length ≤ n
theorem rhHasT (x : Int) (w : World) (h : RefH w r q l) (hl : l.length ≤ 1048576) (hm : ∀ y, y ∈ l ↔ T y = true) :
    Calls Try.prog 49 #[.pointer (some ⟨r, 0, none⟩), .int .i64 x] w fun e w' => e = .returned (.bool (T x)) ∧ w = w' := by
  have := rhHas_any x w h hl
  rw [show decide (x ∈ l) = T x by rw [Bool.eq_iff_iff, decide_eq_true_iff]; exact hm x] at this
  exact this
theorem rhPushT (x : Int) (w : World) (h : RefH w r q l) (hl : l.length < 1048576) (hr : l.Pairwise (· < ·)) (hm : ∀ y, y ∈ l ↔ T y = true) :
    Calls Try.prog 46 #[.pointer (some ⟨r, 0, none⟩), .int .i64 x] w fun e w' => e = .returned (.bool (!T x)) ∧ RStep w r q (fun y => decide (y = x) || T y) (l.length + 1) w' := by
  refine (rhPush_any x w h hl).mono ?_
  rintro e w' (⟨h1, rfl, rfl⟩ | ⟨h1, rfl, k, h2, h3⟩)
  · rw [(hm x).1 h1]
    refine ⟨rfl, l, h.same, hr, fun y => ?_, by omega⟩
    by_cases hy : y = x
    · subst hy; simp [h1]
    · simp [hy, hm y]
  · have hx : T x = false := by
      cases hT : T x with
      | false => rfl
      | true => exact absurd ((hm x).2 hT) h1
    rw [hx]
    refine ⟨rfl, _, h3, insL_rising hr h1 h2, fun y => ?_, by rw [insL_len l x h2.1]; have := h2.1; omega⟩
    rw [mem_insL, hm y]
    by_cases hy : y = x <;> simp [hy]
theorem rhDropT (x : Int) (w : World) (h : RefH w r q l) (hl : l.length ≤ 1048576) (hr : l.Pairwise (· < ·)) (hm : ∀ y, y ∈ l ↔ T y = true) :
    Calls Try.prog 48 #[.pointer (some ⟨r, 0, none⟩), .int .i64 x] w fun e w' => e = .returned (.bool (T x)) ∧ RStep w r q (fun y => !decide (y = x) && T y) (l.length + 1) w' := by
  have hc := rhDrop_any x w h hl
  rw [show decide (x ∈ l) = T x by rw [Bool.eq_iff_iff, decide_eq_true_iff]; exact hm x] at hc
  refine hc.mono ?_
  rintro e w' ⟨rfl, h3⟩
  have hnd : l.Nodup := hr.imp fun {a b} h => by omega
  refine ⟨rfl, _, h3, hr.sublist List.erase_sublist, fun y => ?_, by have := (List.erase_sublist (a := x) (l := l)).length_le; omega⟩
  rw [hnd.mem_erase_iff, hm y]
  simp
theorem rhPopT (w : World) (h : RefH w r q l) (hl : l.length ≤ 1048576) (hr : l.Pairwise (· < ·)) (hm : ∀ y, y ∈ l ↔ T y = true) :
    Calls Try.prog 47 #[.pointer (some ⟨r, 0, none⟩)] w fun e w' => e = .returned (.tuple #[.int .i64 (l.head?.getD 0), .bool l.head?.isSome]) ∧ RStep w r q (fun y => !decide (l.head? = some y) && T y) (l.length + 1) w' := by
  refine (rhPop_any w h hl).mono ?_
  rintro e w' (⟨rfl, rfl, rfl⟩ | ⟨x, t, rfl, rfl, h3⟩)
  · exact ⟨rfl, [], h.same, hr, fun y => by simp [hm y], by simp⟩
  · rw [List.pairwise_cons] at hr
    refine ⟨rfl, t, h3, hr.2, fun y => ?_, by rw [List.length_cons]; omega⟩
    have := hm y
    rw [List.mem_cons] at this
    by_cases hy : x = y
    · subst hy
      have : x ∉ t := fun ht => by have := hr.1 x ht; omega
      simp [this]
    · have h2 : ¬ y = x := fun e => hy e.symm
      simp [h2] at this
      simp [hy, this]
theorem head_least (hr : l.Pairwise (· < ·)) (hm : ∀ y, y ∈ l ↔ T y = true) : (l.head? = none ∧ ∀ y, T y = false) ∨ ∃ x, l.head? = some x ∧ T x = true ∧ ∀ y, T y = true → x ≤ y := by
  cases l with
  | nil =>
    refine .inl ⟨rfl, fun y => ?_⟩
    cases hT : T y with
    | false => rfl
    | true => exact absurd ((hm y).2 hT) (by simp)
  | cons x t =>
    rw [List.pairwise_cons] at hr
    refine .inr ⟨x, rfl, (hm x).1 (by simp), fun y hy => ?_⟩
    rcases List.mem_cons.1 ((hm y).2 hy) with rfl | ht
    · exact Int.le_refl _
    · exact Int.le_of_lt (hr.1 y ht)
end
/-- SameInts of two rows that hold the same -/
theorem sameInts_eq (l : List Int) (v1 v2 : Value) (w : World) (h1 : RowS w 1 v1 l.length (intC l)) (h2 : RowS w 1 v2 l.length (intC l)) (hl : l.length ≤ 1048576) :
    Calls Try.prog 36 #[v1, v2] w fun e w' => e = .returned (.bool true) ∧ ∃ k, w' = w.drewN k := by
  obtain ⟨a1, c1, rfl, p1, p2, _⟩ := h1.read
  obtain ⟨a2, c2, rfl, p3, p4, _⟩ := h2.read
  have H1 := Lib.hid h1
  have H2 := Lib.hid h2
  unfold maxLen at p2 p4
  clear h1 h2
  go_enter Try.func36, Try.ntmps36
  go_wp2
  go_loopw [5] (fun i wr => ∃ k m : Nat, i = .int .i64 k ∧ k ≤ l.length ∧ wr = w.drewN m) (fun i _ => l.length - (intOf i).toNat)
  case atStart => exact ⟨0, 0, rfl, Nat.zero_le _, rfl⟩
  case round =>
    obtain ⟨k, m, rfl, hk, rfl⟩ := hrel
    by_cases hlt : k < l.length
    · obtain ⟨g, off, rfl, _, c0⟩ := row_cell H1.out rfl hlt
      obtain ⟨g2, off2, rfl, _, d0⟩ := row_cell H2.out rfl hlt
      have hi0 : (0 : Int) ≤ (k : Int) := by omega
      have hi1 : (k : Int) < (l.length : Int) := by omega
      generalize hg l k = x at c0 d0
      go_wp2_with fail
      go_quiet (fail)
      go_wp2
      go_roundw
      case rel => first | exact ⟨k + 1, _, by go_num, by omega, World.drewN_drewN _ _ _⟩ | exact ⟨k + 1, _, by go_num, by omega, rfl⟩ | ((repeat apply Exists.intro); exact ⟨⟨k + 1, _, by go_num, by omega, rfl⟩, rfl⟩)
      case measure => simp [intOf]; omega
    · obtain rfl : k = l.length := by omega
      clear hlt
      go_wp2
      go_ret
      exact ⟨rfl, m, rfl⟩
theorem own_moved {S S' D : List Nat} {n : Nat} (hs : ∀ x ∈ S', x ∈ S ∨ n ≤ x) (hd : ∀ x ∈ S, x ∉ D) (hl : ∀ y ∈ D, y < n) : ∀ x ∈ S', x ∉ D := by
  intro x hx hD
  rcases hs x hx with h | h
  · exact hd x h hD
  · have := hl x hD; omega
theorem own_moved' {S S' D : List Nat} {n : Nat} (hs : ∀ x ∈ S', x ∈ S ∨ n ≤ x) (hd : ∀ x ∈ D, x ∉ S) (hl : ∀ y ∈ D, y < n) : ∀ x ∈ D, x ∉ S' := by
  intro x hD hx
  rcases hs x hx with h | h
  · exact hd x hD h
  · have := hl x hD; omega
theorem ownL_moved {p m n : Nat} {q q' : Option Nat} (h : ∀ g, q' = some g → q = some g ∨ n ≤ g) : ∀ x ∈ ownL p m q', x ∈ ownL p m q ∨ n ≤ x := by
  intro x hx
  simp at hx ⊢
  rcases hx with h1 | h1 | h1
  · exact .inl (.inl h1)
  · exact .inl (.inr (.inl h1))
  · rcases h x h1 with h2 | h2
    · exact .inl (.inr (.inr h2))
    · exact .inr h2
theorem refL_moved {r n : Nat} {q q' : Option Nat} (h : ∀ g, q' = some g → q = some g ∨ n ≤ g) : ∀ x ∈ r :: q'.toList, x ∈ r :: q.toList ∨ n ≤ x := by
  intro x hx
  simp at hx ⊢
  rcases hx with h1 | h1
  · exact .inl (.inl h1)
  · rcases h x h1 with h2 | h2
    · exact .inl (.inr h2)
    · exact .inr h2
/-- where the law stands: the Heap, another one, the reference, and the block of the act -/
structure LpAt (B p m : Nat) (q : Option Nat) (N : Nat) (T : Int → Bool) (po mo : Nat) (qo : Option Nat) (No : Nat) (To : Int → Bool) (r : Nat) (rq : Option Nat) (l : List Int) (w wr : World) : Prop where
  h : LsQ wr p m q N T
  o : LsQ wr po mo qo No To
  ref : RefH wr r rq l
  rise : l.Pairwise (· < ·)
  mem : ∀ y, y ∈ l ↔ T y = true
  len : l.length ≤ N
  bel : Below B w wr
  b1 : ∀ x ∈ ownL p m q, B ≤ x
  b2 : ∀ x ∈ ownL po mo qo, B ≤ x
  b3 : ∀ x ∈ r :: rq.toList, B ≤ x
  d1 : ∀ x ∈ ownL p m q, x ∉ ownL po mo qo
  d2 : ∀ x ∈ ownL p m q, x ∉ r :: rq.toList
  d3 : ∀ x ∈ ownL po mo qo, x ∉ r :: rq.toList
section
variable {B p m N po mo No r : Nat} {q qo rq : Option Nat} {T To : Int → Bool} {l : List Int} {w wr w2 w3 : World}
theorem LpAt.size (h : LpAt B p m q N T po mo qo No To r rq l w wr) : B ≤ wr.heap.size := Nat.le_trans (h.b1 p (by simp)) (Nat.le_of_lt (h.h.lt p (by simp)))
theorem LpAt.below (h : LpAt B p m q N T po mo qo No To r rq l w wr) (hb : Below wr.heap.size wr w2) : LpAt B p m q N T po mo qo No To r rq l w w2 :=
  ⟨h.h.below hb, h.o.below hb, h.ref.below hb, h.rise, h.mem, h.len, h.bel.trans (hb.mono h.size), h.b1, h.b2, h.b3, h.d1, h.d2, h.d3⟩
theorem LpAt.up (h : LpAt B p m q N T po mo qo No To r rq l w wr) : LpAt B p m q (N + 1) T po mo qo No To r rq l w wr :=
  ⟨h.h.mono (Nat.le_succ _), h.o, h.ref, h.rise, h.mem, Nat.le_succ_of_le h.len, h.bel, h.b1, h.b2, h.b3, h.d1, h.d2, h.d3⟩
/-- the other one has turned; gc: a block that is none of theirs -/
theorem LpAt.other (h : LpAt B p m q N T po mo qo No To r rq l w wr) {No' : Nat} {To' : Int → Bool} (hd : QDone wr po mo qo No' To' w2) :
    ∃ qo', LpAt B p m q N T po mo qo' No' To' r rq l w w2 ∧ ∀ g, g < wr.heap.size → (g ∉ ownL p m q ∧ g ∉ ownL po mo qo ∧ g ∉ r :: rq.toList) → (g ∉ ownL p m q ∧ g ∉ ownL po mo qo' ∧ g ∉ r :: rq.toList) ∧ w2.heap[g]? = wr.heap[g]? := by
  obtain ⟨qo', h1, h2, h3⟩ := hd
  have hmv := ownL_moved (p := po) (m := mo) h2
  refine ⟨qo', ⟨h.h.keeps h3 h.d1, h1, h.ref.keeps h3 (fun x hx hm => h.d3 x hm hx), h.rise, h.mem, h.len, below_keeps h.bel h3 h.size h.b2, h.b1, fun x hx => ?_, h.b3, own_moved' hmv h.d1 h.h.lt, h.d2, own_moved hmv h.d3 h.ref.lt⟩, fun g hg hn => ⟨⟨hn.1, ?_, hn.2.2⟩, h3.block g hg hn.2.1⟩⟩
  · rcases hmv x hx with hx | hx
    · exact h.b2 x hx
    · exact Nat.le_trans h.size hx
  · exact own_moved' (D := [g]) hmv (by simpa using hn.2.1) (by simpa using hg) g (by simp)
/-- the Heap has turned, and the reference as it did -/
theorem LpAt.moved (h : LpAt B p m q N T po mo qo No To r rq l w wr) {T' : Int → Bool} (hd : QDone wr p m q (N + 1) T' w2) (hr : RStep w2 r rq T' (N + 1) w3) :
    ∃ q' rq' l', LpAt B p m q' (N + 1) T' po mo qo No To r rq' l' w w3 := by
  obtain ⟨q', h1, h2, h3⟩ := hd
  obtain ⟨l', ⟨rq', r1, r2, r3⟩, r4, r5, r6⟩ := hr
  have hs := h3.size
  have hmv := ownL_moved (p := p) (m := m) h2
  have hd2 : ∀ x ∈ ownL p m q', x ∉ r :: rq.toList := own_moved hmv h.d2 h.ref.lt
  have hmr : ∀ x ∈ r :: rq'.toList, x ∈ r :: rq.toList ∨ w2.heap.size ≤ x := refL_moved r2
  have hlo : ∀ x ∈ ownL po mo qo, x < w2.heap.size := fun x hx => Nat.lt_of_lt_of_le (h.o.lt x hx) hs
  refine ⟨q', rq', l', ⟨h1.keeps r3 hd2, (h.o.keeps h3 (fun x hx hm => h.d1 x hm hx)).keeps r3 h.d3, r1, r4, r5, r6, below_keeps (below_keeps h.bel h3 h.size h.b1) r3 (Nat.le_trans h.size hs) h.b3, fun x hx => ?_, h.b2, fun x hx => ?_, own_moved hmv h.d1 h.o.lt, own_moved' hmr hd2 h1.lt, own_moved' hmr h.d3 hlo⟩⟩
  · rcases hmv x hx with hx | hx
    · exact h.b1 x hx
    · exact Nat.le_trans h.size hx
  · rcases hmr x hx with hx | hx
    · exact h.b3 x hx
    · exact Nat.le_trans (Nat.le_trans h.size hs) hx
/-- the reference where the Heap alone has turned -/
theorem LpAt.refAt (h : LpAt B p m q N T po mo qo No To r rq l w wr) {T' : Int → Bool} {N' : Nat} (hd : QDone wr p m q N' T' w2) : RefH w2 r rq l := by
  obtain ⟨q', h1, h2, h3⟩ := hd
  exact h.ref.keeps h3 (fun x hx hm => h.d2 x hm hx)
theorem QDone.block {N' : Nat} {T' : Int → Bool} (hd : QDone wr p m q N' T' w2) {g : Nat} (hg : g < wr.heap.size) (hn : g ∉ ownL p m q) : w2.heap[g]? = wr.heap[g]? ∧ g < w2.heap.size := by
  obtain ⟨q', h1, h2, h3⟩ := hd
  exact ⟨h3.block g hg hn, Nat.lt_of_lt_of_le hg h3.size⟩
theorem RStep.block {N' : Nat} {T' : Int → Bool} (hd : RStep wr r rq T' N' w2) {g : Nat} (hg : g < wr.heap.size) (hn : g ∉ r :: rq.toList) : w2.heap[g]? = wr.heap[g]? ∧ g < w2.heap.size := by
  obtain ⟨l', ⟨q', h1, h2, h3⟩, _⟩ := hd
  exact ⟨h3.block g hg hn, Nat.lt_of_lt_of_le hg h3.size⟩
theorem QDone.mono {N' : Nat} {T' : Int → Bool} (hd : QDone wr p m q N' T' w2) {n : Nat} (hn : N' ≤ n) : QDone wr p m q n T' w2 := by
  obtain ⟨q', h1, h2, h3⟩ := hd
  exact ⟨q', h1.mono hn, h2, h3⟩
theorem RStep.mono {N' : Nat} {T' : Int → Bool} (hd : RStep wr r rq T' N' w2) {n : Nat} (hn : N' ≤ n) : RStep wr r rq T' n w2 := by
  obtain ⟨l', h1, h2, h3, h4⟩ := hd
  exact ⟨l', h1, h2, h3, by omega⟩
end
end Go.Proofs.Ytogifanooleppaa

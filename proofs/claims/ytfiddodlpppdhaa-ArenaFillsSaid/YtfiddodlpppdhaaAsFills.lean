/- Arenas of one small size whose blocks in use are listed, taken and given back one by one. -/
import Derived.Test.YtfiddodlpppdhaaAsGrow
namespace Go.Proofs.Ytfiddodlpppdhaa
open Go.RowKit Go.Maps
set_option linter.unusedVariables false
/-- an arena of one size, made since w0 -/
def FiAt (w0 : World) (pa K N s : Nat) (U : List Nat) (wr : World) : Prop := ∃ B : Nat → Prop, (∀ g, g < w0.heap.size → B g) ∧ OneS B pa K N s U wr ∧ Below w0.heap.size w0 wr
/-- and a row of those in use beside it -/
def FiL (w0 : World) (pa K N s : Nat) (U : List Nat) (v : Value) (l : List Nat) (wr : World) : Prop := ∃ B : Nat → Prop, (∀ g, g < w0.heap.size → B g) ∧ OneS B pa K N s U wr ∧ Below w0.heap.size w0 wr ∧ RowS wr 1 v l.length (intC (natI l)) ∧ ∀ g, v.ownBlock = some g → B g
section
variable {w0 w w' : World} {pa K N n s : Nat} {U l : List Nat} {v : Value}
theorem FiL.at_ (h : FiL w0 pa K N s U v l w) : FiAt w0 pa K N s U w := by
  obtain ⟨B, h1, h2, h3, _⟩ := h
  exact ⟨B, h1, h2, h3⟩
theorem fi_alloc (h1 : 1 ≤ n) (h2 : n ≤ 31) (w : World) (h : FiAt w0 pa K N (szI n) U w) (hK : K ≤ 4294967296) (hU : U.length < (N - 1) * (64 / szI n)) :
    Calls Try.prog 13 #[.pointer (some ⟨pa, 0, none⟩), .int .i64 (n : Nat)] w fun e w' => ∃ x U', e = .returned (alV (some x)) ∧ U'.length = U.length + 1 ∧ FiAt w0 pa (K + 66) N (szI n) U' w' := by
  obtain ⟨B, q1, q2, q3⟩ := h
  refine (alloc_one h1 h2 w q2 hK).mono ?_
  rintro e w2 ⟨b1, ⟨rfl, hf, _⟩ | ⟨x, rfl, _, _, hO⟩⟩
  · have := full_len (small_of h1 h2).1 hf
    omega
  · exact ⟨x, _, rfl, by simp, B, q1, hO, q3.trans (b1.below q1)⟩
theorem fi_full (h1 : 1 ≤ n) (h2 : n ≤ 31) (w : World) (h : FiAt w0 pa K N (szI n) U w) (hK : K ≤ 4294967296) (hU : (N - 1) * (64 / szI n) ≤ U.length) :
    Calls Try.prog 13 #[.pointer (some ⟨pa, 0, none⟩), .int .i64 (n : Nat)] w fun e w' => e = .returned (alV none) ∧ FiAt w0 pa (K + 66) N (szI n) U w' := by
  obtain ⟨B, q1, q2, q3⟩ := h
  refine (alloc_one h1 h2 w q2 hK).mono ?_
  rintro e w2 ⟨b1, ⟨rfl, _, hO⟩ | ⟨x, rfl, _, _, hO⟩⟩
  · exact ⟨rfl, B, q1, hO, q3.trans (b1.below q1)⟩
  · have := hO.len (small_of h1 h2).1
    rw [List.length_append, List.length_singleton] at this
    omega
theorem fi_live (w : World) (h : FiAt w0 pa K N s U w) (hK : K ≤ 1048576) :
    Calls Try.prog 16 #[.pointer (some ⟨pa, 0, none⟩)] w fun e w' => ∃ v l, e = .returned v ∧ l.length = U.length ∧ l.Nodup ∧ (∀ x, x ∈ U ↔ x ∈ l) ∧ FiL w0 pa K N s U v l w' := by
  obtain ⟨B, q1, ⟨⟨A, a1, a2, a3, a4⟩, hn⟩, q3⟩ := h
  refine (live_any w a1 a2.ok hK).mono ?_
  rintro e w2 ⟨v, rfl, r1, r2, r3⟩
  have hm : ∀ x, x ∈ liveL A ↔ x ∈ U := fun x => (mem_liveL a2.ok).trans (a4 x)
  have hB' : ∀ g, addB B w w2 g → B g ∨ (w.heap.size ≤ g ∧ g < w2.heap.size) := fun g h => h
  rw [natI_len] at r1
  exact ⟨v, liveL A, rfl, nodup_len suchL_nodup hn hm, suchL_nodup, fun x => (hm x).symm, addB B w w2, fun g hg => .inl (q1 g hg), ⟨⟨A, a1.growBelow r3 hB', a2, a3, a4⟩, hn⟩, q3.trans (r3.mono q3.size), r1, fun g hg => .inr ⟨r2 g hg, r1.lt g hg⟩⟩
theorem fi_free (hs : small5 s) (x : Nat) (w : World) (h : FiL w0 pa K N s U v l w) (hx : x ∈ U) :
    Calls Try.prog 15 #[.pointer (some ⟨pa, 0, none⟩), .int .i64 (x : Nat)] w fun e w' => e = .returned (.int .i64 0) ∧ FiL w0 pa K N s (U.erase x) v l w' := by
  obtain ⟨B, q1, q2, q3, q4, q5⟩ := h
  refine (free_one hs x hx w q2).mono ?_
  rintro e w2 ⟨rfl, b1, b2⟩
  exact ⟨rfl, B, q1, b1, q3.trans (b2.below q1), q4.bel b2 q5, q5⟩
/-- what is left behind one more was given back -/
theorem drop_erase {l U : List Nat} (hn : l.Nodup) (hU : U.Nodup) {k : Nat} (hk : k < l.length) (h : ∀ x, x ∈ U ↔ x ∈ l.drop k) : ∀ x, x ∈ U.erase l[k] ↔ x ∈ l.drop (k + 1) := by
  intro x
  have hd : l.drop k = l[k] :: l.drop (k + 1) := List.drop_eq_getElem_cons hk
  have hc : (l[k] :: l.drop (k + 1)).Nodup := hd ▸ hn.sublist (List.drop_sublist k l)
  have hc := List.nodup_cons.1 hc
  rw [hU.mem_erase_iff, h x, hd, List.mem_cons]
  constructor
  · rintro ⟨h1, h2⟩
    exact h2.resolve_left h1
  · intro h1
    exact ⟨fun e => hc.1 (e ▸ h1), .inr h1⟩
/-- so many of the row are given back -/
def FiD (w0 : World) (pa K N s : Nat) (v : Value) (l : List Nat) (k : Nat) (wr : World) : Prop := ∃ U, (∀ x, x ∈ U ↔ x ∈ l.drop k) ∧ FiL w0 pa K N s U v l wr
theorem fi_drop (hs : small5 s) (w : World) {k : Nat} (hn : l.Nodup) (hk : k < l.length) (h : FiD w0 pa K N s v l k w) :
    Calls Try.prog 15 #[.pointer (some ⟨pa, 0, none⟩), .int .i64 (l[k] : Nat)] w fun e w' => e = .returned (.int .i64 0) ∧ FiD w0 pa K N s v l (k + 1) w' := by
  obtain ⟨U, hU, hL⟩ := h
  have hx : l[k] ∈ U := (hU _).2 (by rw [List.drop_eq_getElem_cons hk]; exact List.mem_cons_self)
  have hnU : U.Nodup := by obtain ⟨_, _, ⟨_, h⟩, _⟩ := hL; exact h
  refine (fi_free hs l[k] w hL hx).mono ?_
  rintro e w2 ⟨rfl, h2⟩
  exact ⟨rfl, _, drop_erase hn hnU hk hU, h2⟩
theorem FiD.done (h : FiD w0 pa K N s v l l.length w) : FiAt w0 pa K N s [] w := by
  obtain ⟨U, hU, hL⟩ := h
  obtain rfl : U = [] := List.eq_nil_iff_forall_not_mem.2 fun x hx => by
    have := (hU x).1 hx
    rw [List.drop_length] at this
    cases this
  exact hL.at_
end
end Go.Proofs.Ytfiddodlpppdhaa

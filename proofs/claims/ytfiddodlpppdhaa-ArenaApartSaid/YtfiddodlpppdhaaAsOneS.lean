/- Alloc and Free of an arena in memory whose blocks are all of one small size. -/
import Derived.Test.YtfiddodlpppdhaaAsAlive
namespace Go.Proofs.Ytfiddodlpppdhaa
open Go.RowKit Go.Maps
set_option linter.unusedVariables false
/-- an arena in memory, its blocks of one size; U: those in use -/
structure OneS (B : Nat → Prop) (pa K N s : Nat) (U : List Nat) (w : World) : Prop where
  ex : ∃ A, ArS B w pa K A ∧ Fine (· = s) A ∧ A.N = N ∧ ∀ x, liveB A x ≠ none ↔ x ∈ U
  nodup : U.Nodup
def AlOne (B : Nat → Prop) (pa K N s : Nat) (U : List Nat) (w : World) (en : Ending) (w' : World) : Prop :=
  Bel B w w' ∧ ((en = .returned (alV none) ∧ (∀ x, slot N s x → x ∈ U) ∧ OneS B pa (K + 66) N s U w') ∨ ∃ x, en = .returned (alV (some x)) ∧ x ∉ U ∧ slot N s x ∧ OneS B pa (K + 66) N s (U ++ [x]) w')
section
variable {w w' : World} {B : Nat → Prop} {pa K N n : Nat} {U : List Nat}
theorem OneS.slots {s : Nat} (h : OneS B pa K N s U w) (hs : small5 s) : ∀ x ∈ U, slot N s x := by
  obtain ⟨A, h1, h2, h3, h4⟩ := h.ex
  intro x hx
  have := (h4 x).2 hx
  cases hl : liveB A x with
  | none => exact absurd hl this
  | some b =>
    have := h2.slotOf hs (liveB_some.1 hl).1
    rw [h3] at this
    exact this
theorem OneS.len {s : Nat} (h : OneS B pa K N s U w) (hs : small5 s) : U.length ≤ (N - 1) * (64 / s) := by
  rw [← slotsL_len N s]
  exact nodup_sub h.nodup fun x hx => (mem_slotsL hs).2 (h.slots hs x hx)
theorem full_len {s : Nat} (hs : small5 s) (h : ∀ x, slot N s x → x ∈ U) : (N - 1) * (64 / s) ≤ U.length := by
  rw [← slotsL_len N s]
  exact nodup_sub (slotsL_nodup hs) fun x hx => h x ((mem_slotsL hs).1 hx)
theorem alloc_one (h1 : 1 ≤ n) (h2 : n ≤ 31) (w : World) (h : OneS B pa K N (szI n) U w) (hK : K ≤ 4294967296) :
    Calls Try.prog 13 #[.pointer (some ⟨pa, 0, none⟩), .int .i64 (n : Nat)] w (AlOne B pa K N (szI n) U w) := by
  obtain ⟨A, a1, a2, a3, a4⟩ := h.ex
  obtain ⟨g1, g2, g3⟩ := small_of h1 h2
  have g32 := (small_at g1).2.1
  refine (alloc_in n h1 (by omega) w a1 a2.ok hK).mono ?_
  rintro e w2 ⟨r, A', rfl, hr, b1, b2, b3⟩
  obtain ⟨f', e1, e2, e3, e4⟩ := hr.fine a2 h1 (by omega) rfl
  refine ⟨b3, ?_⟩
  rw [show K + 2 * (33 + szI n / 64) = K + 66 by omega] at b1
  cases r with
  | none =>
    refine .inl ⟨rfl, fun x hx => ?_, ⟨A', b1, f', e1.trans a3, fun x => ?_⟩, h.nodup⟩
    · exact (a4 x).1 (hr.oneNone a2 g1 rfl g2 x (by rw [a3]; exact hx))
    · rw [(e3 rfl).1]; exact a4 x
  | some x =>
    obtain ⟨q1, q2, _⟩ := e4 x rfl
    have hxU : x ∉ U := fun hm => (a4 x).2 hm q1
    have hlx : liveB A' x = some ⟨szI n, n, 1⟩ := by rw [q2, updO_eq]
    refine .inr ⟨x, rfl, hxU, ?_, ⟨A', b1, f', e1.trans a3, fun y => ?_⟩, ?_⟩
    · have := f'.slotOf g1 (liveB_some.1 hlx).1
      rw [e1, a3] at this
      exact this
    · rw [q2, List.mem_append, List.mem_singleton]
      by_cases hy : y = x
      · subst hy; rw [updO_eq]; exact ⟨fun _ => .inr rfl, fun _ => by simp⟩
      · rw [updO_ne _ _ hy, a4 y]
        exact ⟨fun h => .inl h, fun h => h.resolve_right hy⟩
    · rw [List.nodup_append]
      refine ⟨h.nodup, by simp, fun a ha b hb => ?_⟩
      rw [List.mem_singleton] at hb
      rintro rfl
      exact hxU (hb ▸ ha)
theorem free_one {s : Nat} (hs : small5 s) (x : Nat) (hx : x ∈ U) (w : World) (h : OneS B pa K N s U w) :
    Calls Try.prog 15 #[.pointer (some ⟨pa, 0, none⟩), .int .i64 (x : Nat)] w fun e w' => e = .returned (.int .i64 0) ∧ OneS B pa K N s (U.erase x) w' ∧ Bel B w w' := by
  obtain ⟨A, a1, a2, a3, a4⟩ := h.ex
  have hl := (a4 x).2 hx
  cases hb : liveB A x with
  | none => exact absurd hb hl
  | some b =>
    obtain ⟨q1, q2⟩ := liveB_some.1 hb
    obtain ⟨f', e1, e2, _⟩ := a2.free_ q1 q2
    refine (free_in x b w a1 a2.ok q1 q2 (a2.use x b q1 q2)).mono ?_
    rintro e w2 ⟨rfl, b1, b2⟩
    refine ⟨rfl, ⟨⟨_, b1, f', e2.trans a3, fun y => ?_⟩, h.nodup.erase x⟩, b2⟩
    rw [e1, h.nodup.mem_erase_iff]
    by_cases hy : y = x
    · subst hy; rw [updO_eq]; exact ⟨fun h => absurd rfl h, fun h => absurd rfl h.1⟩
    · rw [updO_ne _ _ hy, a4 y]
      exact ⟨fun h => ⟨hy, h⟩, fun h => h.2⟩
/-- a new one -/
theorem OneS.new {bud : Nat} {e : Ending} {s : Nat} (h : SomeAr N bud w e w') (hN : 1 ≤ N ∧ N ≤ 4096) : ∃ pa, e = .returned (.pointer (some ⟨pa, 0, none⟩)) ∧ OneS (low w.heap.size) pa 0 N s [] w' ∧ Below w.heap.size w w' := by
  obtain ⟨pa, rfl, h1, h2, h3⟩ := h
  exact ⟨pa, rfl, ⟨⟨newA N bud, h1, Fine.new hN, rfl, fun x => ⟨fun h => absurd rfl h, fun h => absurd h List.not_mem_nil⟩⟩, List.nodup_nil⟩, h3⟩
theorem OneS.drewN {s : Nat} (h : OneS B pa K N s U w) (k : Nat) : OneS B pa K N s U (w.drewN k) := by
  obtain ⟨⟨A, h1, h2⟩, h3⟩ := h
  exact ⟨⟨A, h1.drewN k, h2⟩, h3⟩
end
end Go.Proofs.Ytfiddodlpppdhaa

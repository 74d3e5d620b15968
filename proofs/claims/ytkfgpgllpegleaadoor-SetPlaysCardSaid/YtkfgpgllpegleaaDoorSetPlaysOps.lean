/- What the law SetPlays asks of the two sets, in one answer each. -/
import Derived.Test.YtkfgpgllpegleaaDoorSetAlive
import Derived.Test.YtkfgpgllpegleaaDoorSetDrop
import Derived.Test.YtkfgpgllpegleaaDoorSetList
import Derived.Test.YtkfgpgllpegleaaDoorRefSetRun
import Derived.Test.YtkfgpgllpegleaaDoorSameInts
namespace Go.Proofs.YtkfgpgllpegleaaDoor
open Go.RowKit
set_option linter.unusedVariables false

theorem run_exists (n : Nat) (S : Nat → Bool) (K : Nat) : ∃ R, RunIs n S K R := by
  by_cases h : ∃ i, runP n S K i
  · obtain ⟨i, hi⟩ := h
    induction i using Nat.strongRecOn with
    | ind i ih =>
      by_cases h2 : ∃ j, j < i ∧ runP n S K j
      · obtain ⟨j, hj, hr⟩ := h2
        exact ih j hj hr
      · exact ⟨(i : Int), .inr ⟨i, rfl, hi, fun j hj hr => h2 ⟨j, hj, hr⟩⟩⟩
  · exact ⟨-1, .inl ⟨rfl, fun i hi => h ⟨i, hi⟩⟩⟩
theorem run_to {P : Program} {f : FuncId} {args : Array Value} {n K : Nat} {S : Nat → Bool} {R : Int} {w : World} (hR : RunIs n S K R) (h : Calls P f args w (SomeRun n S K w)) : Calls P f args w fun e w' => e = .returned (.int .i64 R) ∧ w = w' :=
  h.mono fun e w' ⟨r, he, hr, hw⟩ => by rw [hR.unique hr]; exact ⟨he, hw⟩
/-- where the law stands -/
structure SpAt (B B2 B3 n tp tg op og rp rg : Nat) (S So : Nat → Bool) (w0 wr : World) : Prop where
  tab : SetAt wr tp tg n S
  oth : SetAt wr op og 5 So
  ref : RefS wr rp rg n S
  bel : Below B w0 wr
  t1 : (B ≤ tp ∧ B ≤ tg) ∧ tp < B2 ∧ tg < B2
  o1 : (B2 ≤ op ∧ B2 ≤ og) ∧ op < B3 ∧ og < B3
  r1 : B3 ≤ rp ∧ B3 ≤ rg
  le : B ≤ B2 ∧ B2 ≤ B3
  big : B3 ≤ wr.heap.size
section
variable {B B2 B3 n tp tg op og rp rg : Nat} {S So S' So' : Nat → Bool} {w0 wr w1 w2 : World}
theorem SpAt.below (h : SpAt B B2 B3 n tp tg op og rp rg S So w0 wr) (hb : Below wr.heap.size wr w1) : SpAt B B2 B3 n tp tg op og rp rg S So w0 w1 :=
  have k := fun l => Keeps.of_below hb (Nat.le_refl _) l
  ⟨h.tab.keeps (k []) List.not_mem_nil List.not_mem_nil, h.oth.keeps (k []) List.not_mem_nil List.not_mem_nil, h.ref.below hb, h.bel.trans (hb.mono (Nat.le_trans h.le.1 (Nat.le_trans h.le.2 h.big))), h.t1, h.o1, h.r1, h.le, Nat.le_trans h.big hb.size⟩
theorem SpAt.other (h : SpAt B B2 B3 n tp tg op og rp rg S So w0 wr) (ho : SetAt w1 op og 5 So') (hg : wr.grownBy w1 (some og)) : SpAt B B2 B3 n tp tg op og rp rg S So' w0 w1 := by
  have hk : Keeps [og] wr w1 := Keeps.of_grown hg (List.mem_singleton_self _)
  have t1 := h.t1
  have o1 := h.o1
  have r1 := h.r1
  have le := h.le
  have big := h.big
  refine ⟨h.tab.keeps hk ?_ ?_, ho, h.ref.keeps hk ?_ ?_, below_keeps h.bel hk (by omega) (by simp; omega), h.t1, h.o1, h.r1, h.le, Nat.le_trans h.big hk.size⟩
  · simp; omega
  · simp; omega
  · simp; omega
  · simp; omega
theorem SpAt.moved (h : SpAt B B2 B3 n tp tg op og rp rg S So w0 wr) (ht : SetAt w1 tp tg n S') (hg : wr.grownBy w1 (some tg)) (hr : RefS w2 rp rg n S') (hk2 : Keeps [rg] w1 w2) : SpAt B B2 B3 n tp tg op og rp rg S' So w0 w2 := by
  have hk : Keeps [tg] wr w1 := Keeps.of_grown hg (List.mem_singleton_self _)
  have t1 := h.t1
  have o1 := h.o1
  have r1 := h.r1
  have le := h.le
  have big := h.big
  have hs1 := hk.size
  refine ⟨ht.keeps hk2 ?_ ?_, (h.oth.keeps hk ?_ ?_).keeps hk2 ?_ ?_, hr, below_keeps (below_keeps h.bel hk (by omega) (by simp; omega)) hk2 (by omega) (by simp; omega), h.t1, h.o1, h.r1, h.le, Nat.le_trans h.big (Nat.le_trans hk.size hk2.size)⟩
  all_goals (simp; omega)
theorem SpAt.refAt (h : SpAt B B2 B3 n tp tg op og rp rg S So w0 wr) (hg : wr.grownBy w1 (some tg)) : RefS w1 rp rg n S := by
  have t1 := h.t1
  have r1 := h.r1
  have le := h.le
  refine h.ref.keeps (Keeps.of_grown hg (List.mem_singleton_self _)) ?_ ?_
  all_goals (simp; omega)
end
end Go.Proofs.YtkfgpgllpegleaaDoor

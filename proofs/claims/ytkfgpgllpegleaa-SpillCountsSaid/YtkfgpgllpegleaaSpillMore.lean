/- spill's Up as one contract, and New. -/
import Derived.Test.YtkfgpgllpegleaaSpill
namespace Go.Proofs.Ytkfgpgllpegleaa
open Go.RowKit Go.Maps
set_option linter.unusedVariables false

/-- behind an Up that is not stuck: what is sticky, the extras, the answer -/
def upT (lim : Int) (X : Int → Nat) (T : Int → Bool) (h : Int) (cc : Nat) : Int → Bool := if lim ≤ (cc : Int) + (X h : Nat) + 1 then stickT T h else T
def upX (X : Int → Nat) (h : Int) (cc : Nat) : Int → Nat := if cc < 255 then X else growX X h (X h + 1)
def upR (cc : Nat) : Nat := if cc < 255 then cc + 1 else cc
theorem up_any {p e s n : Nat} {lim : Int} {X : Int → Nat} {T : Int → Bool} (h c : Int) (w : World) (hs : SpillAt w p e s n lim X T) (hh : (Lit.int .i64 h).wf = true) (hT : T h = false) (hX : X h ≤ 1099511627776) (hn : n + 2 ≤ 1099511627776) :
    Calls Try.prog 15 #[.pointer (some ⟨p, 0, none⟩), .int .i64 h, .int .i64 c] w (UpDone p e s n lim (upX X h (cutC c)) (upT lim X T h (cutC c)) (upR (cutC c)) w) := by
  have hle := cutC_le c
  unfold upX upT upR
  by_cases hr : lim ≤ (cutC c : Int) + (X h : Nat) + 1
  · rw [if_pos hr]
    by_cases hc : cutC c < 255
    · rw [if_pos hc, if_pos hc]
      exact up_reach_low h c w (cutC c) (X h) hs hh hT rfl rfl hX hn hr (by omega)
    · rw [if_neg hc, if_neg hc]
      exact up_reach_high h c w (cutC c) (X h) hs hh hT rfl rfl hX hn hr (by omega)
  · rw [if_neg hr]
    by_cases hc : cutC c < 255
    · rw [if_pos hc, if_pos hc]
      exact up_free_low h c w (cutC c) (X h) hs hh hT rfl rfl hX hn (by omega) (by omega)
    · rw [if_neg hc, if_neg hc]
      exact up_free_high h c w (cutC c) (X h) hs hh hT rfl rfl hX hn (by omega) (by omega)

/-- a new table -/
def SomeSpill (lim : Int) (w : World) (en : Ending) (w' : World) : Prop :=
  ∃ p e s, en = .returned (.pointer (some ⟨p, 0, none⟩)) ∧ SpillAt w' p e s 0 lim (fun _ => 0) (fun _ => false) ∧ w.heap.size ≤ p ∧ w.heap.size ≤ e ∧ w.heap.size ≤ s ∧ Below w.heap.size w w'
/-- a limit, cut -/
def limC (l : Int) : Int := max 1 (min l 1073741824)
theorem made_spill (w : World) (lim : Int) (hl : 1 ≤ lim ∧ lim ≤ 1073741824) (ty : TypeId) :
    SomeSpill lim w (.returned (.pointer (some ⟨w.heap.size + 1 + 1, 0, none⟩))) (((w.alloc (.map #[] 0)).alloc (.map #[] 0)).alloc (.cells #[.int .i64 lim, .map (some w.heap.size), .map (some (w.heap.size + 1))] ty)) := by
  have e1 := size_alloc w (.map #[] 0)
  have e2 := size_alloc (w.alloc (.map #[] 0)) (.map #[] 0)
  refine ⟨w.heap.size + 1 + 1, w.heap.size, w.heap.size + 1, rfl, ⟨⟨by omega, by omega, by omega⟩, ⟨ty, ?_⟩, hl, ⟨fun _ => none, ?_, fun _ _ => rfl⟩, ⟨fun _ => none, ?_, fun _ _ => rfl⟩⟩, by omega, by omega, by omega, ?_⟩
  · have := heap_alloc_at ((w.alloc (.map #[] 0)).alloc (.map #[] 0)) (.cells #[.int .i64 lim, .map (some w.heap.size), .map (some (w.heap.size + 1))] ty)
    rw [e2, e1] at this; exact this
  · refine ((MapAt.made Try.prog w 3).same ?_)
    rw [heap_alloc_lt _ _ (by omega), heap_alloc_lt _ _ (by omega)]
  · have := MapAt.made Try.prog (w.alloc (.map #[] 0)) 3
    rw [e1] at this
    refine this.same ?_
    rw [heap_alloc_lt _ _ (by omega)]
  · exact (((Below.refl _ _).alloc (Nat.le_refl _) _).alloc (by omega) _).alloc (by omega) _
theorem spillNew_any (l : Int) (w : World) : Calls Try.prog 14 #[.int .i64 l] w (SomeSpill (limC l) w) := by
  have hmm := @run_makeMap Try.prog
  go_enter Try.func14, Try.ntmps14
  go_wp2
  all_goals
    go_ret
    first
    | (have e : limC l = l := (by unfold limC; omega)
       rw [e]
       exact made_spill w l (by unfold limC at e; omega) _)
    | (have e : limC l = 1 := (by unfold limC; omega)
       rw [e]
       exact made_spill w 1 (by omega) _)
    | (have e : limC l = 1073741824 := (by unfold limC; omega)
       rw [e]
       exact made_spill w 1073741824 (by omega) _)
end Go.Proofs.Ytkfgpgllpegleaa

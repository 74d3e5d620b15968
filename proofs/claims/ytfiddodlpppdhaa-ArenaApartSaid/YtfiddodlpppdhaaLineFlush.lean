/- line's New and Flush compute what they say. -/
import Derived.Test.YtfiddodlpppdhaaLineAdd
namespace Go.Proofs.Ytfiddodlpppdhaa
open Go.RowKit
set_option linter.unusedVariables false

/-- a new line -/
def SomeLine (bud : Nat) (w : World) (en : Ending) (w' : World) : Prop :=
  ∃ p, en = .returned (.pointer (some ⟨p, 0, none⟩)) ∧ LineAt w' p none bud [] ∧ w.heap.size ≤ p ∧ Below w.heap.size w w'
theorem made_line (w : World) (bud : Nat) (hb : bud ≤ 1073741824) (T : TypeId) :
    SomeLine bud w (.returned (.pointer (some ⟨w.heap.size, 0, none⟩))) (w.alloc (.cells #[.int .i64 (bud : Nat), .int .i64 0, .slice none 0 0] T)) :=
  ⟨w.heap.size, rfl, ⟨hb, ⟨T, .slice none 0 0, heap_alloc_at _ _, rfl, RowS.nil _ _⟩, by simp, fun x hx => by simp at hx, by simp⟩, Nat.le_refl _, (Below.refl _ _).alloc (Nat.le_refl _) _⟩
theorem lineNew_in (b : Nat) (w : World) (hb : b ≤ 1073741824) : Calls Try.prog 26 #[.int .i64 (b : Nat)] w (SomeLine b w) := by
  have hmx : (if 0 < b then ((b : Nat) : Int) else 0) = (b : Int) := by split <;> omega
  go_enter Try.func26, Try.ntmps26
  go_wp2
  go_ret
  exact made_line w b hb _

/-- what Flush does -/
def FlushDone (p : Nat) (q : Option Nat) (bud : Nat) (l : List (Int × Nat)) (w : World) (en : Ending) (w' : World) : Prop :=
  ∃ v, en = .returned v ∧ RowS w' 1 v (l.map (·.1)).length (intCells (l.map (·.1))) ∧ (∀ g, v.ownBlock = some g → w.heap.size ≤ g) ∧ LineAt w' p q bud [] ∧ Keeps [p] w w'

/-- where Flush stands -/
structure Flushing (w : World) (p : Nat) (q : Option Nat) (bud : Nat) (L : List (Int × Nat)) (o : Value) (wr : World) (l : List (Int × Nat)) (os : List Int) : Prop where
  line : LineAt wr p q bud l
  out : L.map (·.1) = os ++ l.map (·.1)
  row : RowS wr 1 o os.length (intCells os)
  new : ∀ g, o.ownBlock = some g → w.heap.size ≤ g
  keep : Keeps [p] w wr
theorem Flushing.step {w wr w2 w3 : World} {p bud : Nat} {q : Option Nat} {L : List (Int × Nat)} {o v2 : Value} {x : Int × Nat} {r : List (Int × Nat)} {os : List Int} (h : Flushing w p q bud L o wr (x :: r) os) (hp1 : p < w.heap.size) (hq1 : ∀ g, q = some g → g < w.heap.size)
    (hl : LineAt w2 p q bud r) (hk : Keeps [p] wr w2) {ob : Obj} (hr : RowS w3 1 v2 (os.length + 1) (intCells os ++ [.int .i64 x.1])) (hg : (w2.alloc ob).grownBy w3 o.ownBlock) (hv : v2.ownBlock = o.ownBlock ∨ ∃ g, v2.ownBlock = some g ∧ (w2.alloc ob).heap.size ≤ g) :
    Flushing w p q bud L v2 w3 r (os ++ [x.1]) := by
  have hw2 : w.heap.size ≤ w2.heap.size := Nat.le_trans h.keep.size hk.size
  have k3 : Keeps o.ownBlock.toList w2 w3 := ((Keeps.refl _ _).alloc ob).trans (Keeps.of_row hg (by intro g hg'; rw [hg']; simp))
  have no : ∀ g, g < w.heap.size → g ∉ o.ownBlock.toList := by
    intro g hlt hm
    cases ho : o.ownBlock with
    | none => rw [ho] at hm; simp at hm
    | some g' =>
      rw [ho] at hm
      simp at hm
      have := h.new g' ho
      omega
  have ha : intCells (os ++ [x.1]) = intCells os ++ [.int .i64 x.1] := intCells_snoc os x.1
  refine ⟨hl.keeps k3 (no p hp1) fun g hg' => no g (hq1 g hg'), by rw [h.out]; simp, by rw [ha]; simpa using hr, fun g hg' => ?_, ?_⟩
  · rcases hv with hv | ⟨g', hv, hge⟩
    · exact h.new g (by rw [← hv]; exact hg')
    · rw [hv] at hg'; cases hg'; rw [size_alloc] at hge; omega
  · exact (h.keep.trans hk).then k3 (fun y hy => .inr (by
      have : ¬ y < w.heap.size := fun hlt => no y hlt hy
      omega))
set_option maxRecDepth 100000 in
set_option maxHeartbeats 2000000 in
theorem flush_any {p bud : Nat} {q : Option Nat} {l : List (Int × Nat)} (w : World) (h : LineAt w p q bud l) :
    Calls Try.prog 30 #[.pointer (some ⟨p, 0, none⟩)] w (FlushDone p q bud l w) := by
  obtain ⟨i1, hi1, hz10, hz11, hz12⟩ := info_parts lineInfo1
  have I1 := Lib.hid hi1
  have Z10 := Lib.hid hz10
  have Z11 := Lib.hid hz11
  have Z12 := Lib.hid hz12
  have HL := Lib.hid h.len
  have HP1 : Hid (p < w.heap.size) := h.lt.1
  have HQ1 : Hid (∀ g, q = some g → g < w.heap.size) := h.lt.2
  have G0 : Hid (Flushing w p q bud l (.slice none 0 0) w l []) := (show Flushing w p q bud l (.slice none 0 0) w l [] from ⟨h, rfl, RowS.nil _ _, fun g hg => (by cases hg), Keeps.refl _ _⟩)
  clear h hi1 hz10 hz11 hz12
  go_enter Try.func30, Try.ntmps30
  go_wp2_with fail
  go_loopw [3] (fun o wr => ∃ l' os, Flushing w p q bud l o wr l' os) (fun _ wr => lineLen p wr)
  case atStart => exact ⟨_, _, G0.out⟩
  case round =>
    obtain ⟨l', os, hgo⟩ := hrel
    have HG := Lib.hid hgo
    obtain ⟨T', v', hp', _, hr'⟩ := hgo.line.at_
    obtain ⟨a1, k1, rfl, _⟩ := hr'.read
    have k2' : wr.cell? ⟨p, 2, none⟩ = some (.slice a1 l'.length k1) := by rw [cell_of_block hp']; rfl
    have hl' := hgo.line.len
    clear hgo hp' hr'
    cases l' with
    | nil =>
      go_wp2
      go_ret
      have e := HG.out.out
      simp at e
      exact ⟨u3, rfl, by rw [e]; exact HG.out.row, HG.out.new, HG.out.line, HG.out.keep⟩
    | cons x r =>
      have HO0 : Hid (os.length ≤ l.length) := (show os.length ≤ l.length by
        have h1 := congrArg List.length HG.out.out
        simp at h1
        omega)
      have HO1 : Hid (os.length + 1 ≤ maxLen) := (show os.length + 1 ≤ maxLen by have := HO0.out; have := HL.out; unfold maxLen; omega)
      have HO2 : Hid ((os.length + 1) * 8 ≤ 140737488355328) := (show (os.length + 1) * 8 ≤ 140737488355328 by have := HO0.out; have := HL.out; omega)
      have F := Lib.hid (first_any wr HG.out.line)
      go_wp2_with fail
      refine F.out.mono ?_
      rintro en w2 ⟨rfl, hl2, hk2⟩
      have HL2 := Lib.hid hl2
      have HK2 := Lib.hid hk2
      have HR2 : Hid (RowS w2 1 u3 os.length (intCells os)) := HG.out.row.keeps hk2 (fun g hg hm => by
        cases List.mem_singleton.1 hm
        have := HG.out.new _ hg
        have := HP1.out
        omega)
      clear hl2 hk2
      go_wp2_with (at_builtin; refine wpList_row (by rfl) (.tmp 10) (.tmp 13) 35 rfl 3 i1 (.int .i64 0) 1 8 Try.underlying35 I1.out Z10.out Z11.out Z12.out rfl (by decide) u3 os.length (intCells os) rfl (HR2.out.keeps ((Keeps.refl [] _).alloc _) (fun _ _ => List.not_mem_nil)) (.slice (some ⟨w2.heap.size, 0, none⟩) 1 1) 1 [.int .i64 x.1] rfl (new_one _ _ _) (one_of rfl) HO1.out HO2.out ?_)
      intro v3 w3 hr3 hg3 hv3
      have e3 : w2.heap.size + 1 = (w2.alloc (.cells #[.int .i64 x.1] 3)).heap.size := (size_alloc _ _).symm
      rw [e3] at hv3
      have G3 := Lib.hid (HG.out.step HP1.out HQ1.out HL2.out HK2.out hr3 hg3 hv3)
      have M3 : Hid (lineLen p w3 < lineLen p wr) := (show lineLen p w3 < lineLen p wr by
        rw [G3.out.line.len_eq, HG.out.line.len_eq]; simp)
      clear hr3 hg3 hv3 e3
      go_wp2
      go_roundw
      case rel => first | exact ⟨_, _, G3.out⟩ | ((repeat apply Exists.intro); exact ⟨⟨_, _, G3.out⟩, rfl⟩)
      case measure => exact M3.out
end Go.Proofs.Ytfiddodlpppdhaa

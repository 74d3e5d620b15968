/- the reference's SameInts of one list twice; bytes as a string. -/
import Derived.Test.YteipnfnbepnpjaaCodeWr
import Derived.Test.YteipnfnbepnpjaaCodeLaw
import Derived.Laws.BytesArg
import Derived.WalkArith
namespace Go.Proofs.Yteipnfnbepnpjaa
open Go.RowKit
set_option linter.unusedVariables false

/-- a slice that holds instructions -/
structure HoldsI (w : World) (a : Option Addr) (len cap : Nat) (l : List InsT) : Prop where
  eq : len = l.length
  le : len ≤ cap
  max : cap ≤ 9223372036854775807
  cell : ∀ (i : Nat) (x : InsT), l[i]? = some x → ∃ g off, a = some ⟨g, off, none⟩ ∧ g < w.heap.size ∧ w.cell? ⟨g, off + i * 4, none⟩ = some (.int .i64 (x.1 : Nat)) ∧ w.cell? ⟨g, off + i * 4 + 1, none⟩ = some (.int .i64 (x.2.1 : Nat)) ∧
    w.cell? ⟨g, off + i * 4 + 2, none⟩ = some (.int .i64 (x.2.2.1 : Nat)) ∧ w.cell? ⟨g, off + i * 4 + 3, none⟩ = some (.int .i64 (x.2.2.2 : Nat))
theorem HoldsI.below {w w' : World} {a : Option Addr} {len cap : Nat} {l : List InsT} (h : HoldsI w a len cap l) (hb : Below w.heap.size w w') : HoldsI w' a len cap l :=
  ⟨h.eq, h.le, h.max, fun i x hi => by
    obtain ⟨g, off, e, hlt, c0, c1, c2, c3⟩ := h.cell i x hi
    exact ⟨g, off, e, Nat.lt_of_lt_of_le hlt hb.size, (hb.cell (p := ⟨g, _, none⟩) hlt).trans c0, (hb.cell (p := ⟨g, _, none⟩) hlt).trans c1, (hb.cell (p := ⟨g, _, none⟩) hlt).trans c2, (hb.cell (p := ⟨g, _, none⟩) hlt).trans c3⟩⟩
theorem RowS.holdsI {w : World} {v : Value} {l : List InsT} (h : RowS w 4 v l.length (cellsI l)) : ∃ a cap, v = .slice a l.length cap ∧ HoldsI w a l.length cap l := by
  obtain ⟨a, cap, rfl, h1, h2, h3, h4⟩ := h.read
  refine ⟨a, cap, rfl, rfl, h1, by simpa [maxLen] using h2, fun i x hx => ?_⟩
  have hc := fun j hj => cellsI_at hx j hj
  obtain ⟨g, off, ha, hg, d0⟩ := h4 (i * 4 + 0) _ ((hc 0 (by omega)).trans rfl)
  obtain ⟨g1, off1, ha1, _, d1⟩ := h4 (i * 4 + 1) _ ((hc 1 (by omega)).trans rfl)
  obtain ⟨g2, off2, ha2, _, d2⟩ := h4 (i * 4 + 2) _ ((hc 2 (by omega)).trans rfl)
  obtain ⟨g3, off3, ha3, _, d3⟩ := h4 (i * 4 + 3) _ ((hc 3 (by omega)).trans rfl)
  subst ha
  cases ha1
  cases ha2
  cases ha3
  rw [← Nat.add_assoc] at d0 d1 d2 d3
  exact ⟨g, off, rfl, hg, d0, d1, d2, d3⟩
/-- as what is to be written -/
theorem HoldsI.insSl {w : World} {a : Option Addr} {len cap : Nat} {l : List InsT} (h : HoldsI w a len cap l) :
    InsSl w a len cap (fun i => ((l[i]?.getD (0, 0, 0, 0)).1 : Nat)) (fun i => (((l[i]?.getD (0, 0, 0, 0)).2.1 : Nat), ((l[i]?.getD (0, 0, 0, 0)).2.2.1 : Nat), ((l[i]?.getD (0, 0, 0, 0)).2.2.2 : Nat))) := by
  refine ⟨h.le, h.max, fun i hi => ?_⟩
  have hl : i < l.length := by rw [← h.eq]; exact hi
  obtain ⟨g, off, e, hlt, c0, c1, c2, c3⟩ := h.cell i _ (List.getElem?_eq_getElem hl)
  refine ⟨g, off, e, hlt, ?_, ?_, ?_, ?_⟩ <;> rw [List.getElem?_eq_getElem hl] <;> assumption
theorem rowQ_toQ (l : List InsT) : rowQ (fun i => (((l[i]?.getD (0, 0, 0, 0)).2.1 : Nat), ((l[i]?.getD (0, 0, 0, 0)).2.2.1 : Nat), ((l[i]?.getD (0, 0, 0, 0)).2.2.2 : Nat))) l.length = toQ l := by
  unfold rowQ toQ
  apply List.ext_getElem?
  intro i
  by_cases hi : i < l.length
  · simp [hi]
  · simp [hi]
theorem sameIns_none (a a' : Option Addr) (c c' : Nat) (w : World) :
    Calls Try.prog 22 #[.slice a 0 c, .slice a' 0 c'] w fun e w' => e = .returned (.bool true) ∧ ∃ k, w' = w.drewN k := by
  go_enter Try.func22, Try.ntmps22
  go_wp2
  go_loop [5] (fun i => i = .int .i64 0) (fun _ => 0)
  case atStart => exact rfl
  case round =>
    obtain rfl := hrel
    go_wp2
    go_ret
    exact ⟨rfl, 0, rfl⟩
set_option maxRecDepth 100000 in
set_option maxHeartbeats 1000000 in
theorem sameIns_pos (g off g' off' n c c' : Nat) (l : List InsT) (w : World) (h : HoldsI w (some ⟨g, off, none⟩) n c l) (h' : HoldsI w (some ⟨g', off', none⟩) n c' l) :
    Calls Try.prog 22 #[.slice (some ⟨g, off, none⟩) n c, .slice (some ⟨g', off', none⟩) n c'] w fun e w' => e = .returned (.bool true) ∧ ∃ k, w' = w.drewN k := by
  have hn := h.eq
  have hc := h.le
  have hm := h.max
  have hc' := h'.le
  have hm' := h'.max
  have H := Lib.hid h
  have H' := Lib.hid h'
  have HN := Lib.hid hn
  clear h h' hn
  go_enter Try.func22, Try.ntmps22
  go_wp2
  go_loopw [5] (fun i wr => ∃ k m : Nat, i = .int .i64 k ∧ k ≤ n ∧ wr = w.drewN m) (fun i _ => n - (intOf i).toNat)
  case atStart => exact ⟨0, 0, rfl, Nat.zero_le _, rfl⟩
  case round =>
    obtain ⟨k, m, rfl, hk, rfl⟩ := hrel
    by_cases hlt : k < n
    · obtain ⟨x, hx⟩ : ∃ x, l[k]? = some x := ⟨_, List.getElem?_eq_getElem (by rw [← HN.out]; exact hlt)⟩
      obtain ⟨_, _, e, _, c0, c1, c2, c3⟩ := H.out.cell k x hx
      cases e
      obtain ⟨_, _, e, _, d0, d1, d2, d3⟩ := H'.out.cell k x hx
      cases e
      have hi0 : (0 : Int) ≤ (k : Int) := by omega
      have hi1 : (k : Int) < (n : Int) := by omega
      clear hx
      go_wp2_with fail
      go_quiet (fail)
      go_wp2
      go_roundw
      case rel => first | exact ⟨k + 1, _, by go_num, by omega, World.drewN_drewN _ _ _⟩ | exact ⟨k + 1, _, by go_num, by omega, rfl⟩ | ((repeat apply Exists.intro); exact ⟨⟨k + 1, _, by go_num, by omega, rfl⟩, rfl⟩)
      case measure => simp [intOf]; omega
    · obtain rfl : k = n := by omega
      clear hlt
      go_wp2
      go_ret
      exact ⟨rfl, m, rfl⟩
theorem sameIns_any (a a' : Option Addr) (n c c' : Nat) (l : List InsT) (w : World) (h : HoldsI w a n c l) (h' : HoldsI w a' n c' l) :
    Calls Try.prog 22 #[.slice a n c, .slice a' n c'] w fun e w' => e = .returned (.bool true) ∧ ∃ k, w' = w.drewN k := by
  rcases Nat.eq_zero_or_pos n with rfl | hpos
  · exact sameIns_none a a' c c' w
  · have hl : 0 < l.length := by rw [← h.eq]; exact hpos
    obtain ⟨g, off, rfl, _⟩ := h.cell 0 _ (List.getElem?_eq_getElem hl)
    obtain ⟨g', off', rfl, _⟩ := h'.cell 0 _ (List.getElem?_eq_getElem hl)
    exact sameIns_pos g off g' off' n c c' l w h h'

/-! ### bytes as a string -/
/-- the string of some bytes -/
def strOf (l : List Nat) : ByteArray := strOfNums (l.map fun (y : Nat) => (y : Int))
/-- a slice that holds bytes -/
structure HoldsB (w : World) (a : Option Addr) (len cap : Nat) (l : List Nat) : Prop where
  eq : len = l.length
  le : len ≤ cap
  max : cap ≤ 9223372036854775807
  nil : a = none → cap = 0
  cell : ∀ (i y : Nat), l[i]? = some y → ∃ g off, a = some ⟨g, off, none⟩ ∧ g < w.heap.size ∧ w.cell? ⟨g, off + i, none⟩ = some (.int .u8 (y : Nat))
  lt : ∀ y ∈ l, y < 256
theorem HoldsB.below {w w' : World} {a : Option Addr} {len cap : Nat} {l : List Nat} (h : HoldsB w a len cap l) (hb : Below w.heap.size w w') : HoldsB w' a len cap l :=
  ⟨h.eq, h.le, h.max, h.nil, fun i y hi => by
    obtain ⟨g, off, e, hlt, c0⟩ := h.cell i y hi
    exact ⟨g, off, e, Nat.lt_of_lt_of_le hlt hb.size, (hb.cell (p := ⟨g, _, none⟩) hlt).trans c0⟩, h.lt⟩
theorem RowS.holdsB {w : World} {v : Value} {l : List Nat} (h : RowS w 1 v l.length (byteCells l)) (hl : ∀ y ∈ l, y < 256) : ∃ a cap, v = .slice a l.length cap ∧ HoldsB w a l.length cap l := by
  obtain ⟨a, cap, rfl, h1, h2, h3, h4⟩ := h.read
  refine ⟨a, cap, rfl, rfl, h1, by simpa [maxLen] using h2, fun e => (h3 e).2, fun i y hy => ?_, hl⟩
  exact h4 i _ (by unfold byteCells; rw [List.getElem?_map, hy]; rfl)
theorem HoldsB.conv {w : World} {a : Option Addr} {len cap : Nat} {l : List Nat} (h : HoldsB w a len cap l) : (convert 26 9 (.slice a len cap)).run Try.prog w = .ok (.string (strOf l)) w := by
  cases l with
  | nil =>
    have h0 : len = 0 := h.eq
    subst h0
    cases a with
    | none => exact run_convert_bytes_nil w _ 5 Try.underlying26 Try.underlying5 _ _ _ Try.underlying9
    | some ad =>
      rw [run_convert_bytes_string w _ _ _ _ _ _ Try.underlying26 Try.underlying5 Try.underlying9, run_bytesToString w ad 0 cap [] (run_loadCells_list (P := Try.prog) w ad [] (fun j v hj => by simp at hj))]
      rfl
  | cons y l =>
    obtain ⟨g, off, rfl, _, _⟩ := h.cell 0 y rfl
    refine run_convert_bytes_arg w _ _ Try.underlying26 Try.underlying5 g off len cap _ (by rw [List.length_map]; exact h.eq.symm) (fun i hi => ?_) _ Try.underlying9
    have hl : i < (y :: l).length := by rw [← h.eq]; exact hi
    obtain ⟨g', off', e, _, hc⟩ := h.cell i _ (List.getElem?_eq_getElem hl)
    cases e
    rw [hc, List.getD_eq_getElem?_getD, List.getElem?_map, List.getElem?_eq_getElem hl]
    rfl
theorem Bys.holdsB {w : World} {a : Option Addr} {len cap : Nat} {b : Nat → Nat} (h : Bys w a len cap b) : HoldsB w a len cap ((List.range len).map b) := by
  refine ⟨by simp, h.le, h.max, fun e => (h.nil e).2, fun i y hy => ?_, fun y hy => ?_⟩
  · have hi : i < len := by
      have := (List.getElem?_eq_some_iff.1 hy).1
      simpa using this
    obtain ⟨g, off, e, hlt, hc⟩ := h.cell i hi
    have : y = b i := by simpa [hi] using hy.symm
    rw [this]
    exact ⟨g, off, e, hlt, hc⟩
  · obtain ⟨i, hi, rfl⟩ := List.mem_map.1 hy
    exact h.lt (List.mem_range.1 hi)
theorem HoldsB.bys {w : World} {a : Option Addr} {len cap : Nat} {l : List Nat} (h : HoldsB w a len cap l) : Bys w a len cap (fun i => l[i]?.getD 0) := by
  refine ⟨h.le, h.max, fun e => ?_, fun i hi => ?_, fun i hi => ?_⟩
  · cases l with
    | nil => exact ⟨h.eq, h.nil e⟩
    | cons y l => obtain ⟨g, off, e', _⟩ := h.cell 0 y rfl; rw [e] at e'; cases e'
  · have hl : i < l.length := by rw [← h.eq]; exact hi
    obtain ⟨g, off, e, hlt, hc⟩ := h.cell i _ (List.getElem?_eq_getElem hl)
    exact ⟨g, off, e, hlt, by rw [hc]; simp [List.getElem?_eq_getElem hl]⟩
  · have hl : i < l.length := by rw [← h.eq]; exact hi
    have := h.lt _ (List.getElem_mem hl)
    refine WalkArith.wf_u8 ?_
    simp [List.getElem?_eq_getElem hl]
    omega
end Go.Proofs.Yteipnfnbepnpjaa

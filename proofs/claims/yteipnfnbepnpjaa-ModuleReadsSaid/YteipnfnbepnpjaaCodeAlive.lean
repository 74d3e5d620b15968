/- code's Read of any bytes; the example of chapter 19 holds. -/
import Derived.Test.YteipnfnbepnpjaaCodeRead
namespace Go.Proofs.Yteipnfnbepnpjaa
open Go.RowKit
set_option linter.unusedVariables false

theorem cRead_none (a : Option Addr) (cap : Nat) (b : Nat → Nat) (w : World) :
    Calls Try.prog 19 #[.slice a 0 cap] w (ReadDone ([], 0) w) := by
  go_enter Try.func19, Try.ntmps19
  go_wp2
  go_loop [4, 5] (fun v i => i = .int .i64 0 ∧ v = .slice none 0 0) (fun _ _ => 0)
  case atStart => exact ⟨rfl, rfl⟩
  case round =>
    obtain ⟨rfl, rfl⟩ := hrel
    go_wp2
    go_ret2
    exact ⟨.slice none 0 0, rfl, RowS.nil _ _, (fun _ h => by cases h), Below.refl _ _⟩
/-- a slice of bytes that holds these -/
def Bys (w : World) (a : Option Addr) (len cap : Nat) (b : Nat → Nat) : Prop := Ints .u8 w a len cap (fun i => (b i : Nat))
theorem Bys.lt {w : World} {a : Option Addr} {len cap : Nat} {b : Nat → Nat} (h : Bys w a len cap b) {i : Nat} (hi : i < len) : b i < 256 := by
  have := h.wf i hi
  have := bounds_u8 this
  omega
theorem Bys.below {w w' : World} {a : Option Addr} {len cap : Nat} {b : Nat → Nat} (h : Bys w a len cap b) (hb : Below w.heap.size w w') : Bys w' a len cap b := Ints.below h hb
theorem cRead_any (a : Option Addr) (len cap : Nat) (b : Nat → Nat) (w : World) (h : Bys w a len cap b) (hl : len ≤ 4398046511104) :
    Calls Try.prog 19 #[.slice a len cap] w (ReadDone (rdAll b len) w) := by
  rcases Nat.eq_zero_or_pos len with rfl | hpos
  · exact cRead_none a cap b w
  · obtain ⟨g, off, rfl, hg, _⟩ := h.cell 0 hpos
    exact cRead_pos g off len cap b w h.le hl h.max hpos hg (fun i hi => by
      obtain ⟨g', off', e, _, hc⟩ := h.cell i hi
      cases e
      exact ⟨h.lt hi, hc⟩)
theorem num19_any (e : Int) (w : World) : Calls Try.prog 20 #[.int .i64 e] w fun en w' => en = .returned (.int .i64 e) ∧ w = w' := by
  go_enter Try.func20, Try.ntmps20
  go_wp2
  go_ret
  exact ⟨rfl, rfl⟩
/-- the bytes of the example -/
def exB : Nat → Nat := fun i => [1, 3, 22].getD i 0
theorem exB_rd : rdAll exB 3 = ([(0, 1, 3, 0), (2, 22, 0, 0)], 0) := by decide
theorem exB_bys (w : World) (t : TypeId) : Bys (w.alloc (.cells #[.int .u8 1, .int .u8 3, .int .u8 22] t)) (some ⟨w.heap.size, 0, none⟩) 3 3 exB := by
  refine ⟨Nat.le_refl _, by decide, fun e => (by cases e), fun i hi => ⟨_, _, rfl, by simp, ?_⟩, fun i hi => ?_⟩
  · rw [Nat.zero_add, cell_of_block (heap_alloc_at _ _)]
    rcases (by omega : i = 0 ∨ i = 1 ∨ i = 2) with rfl | rfl | rfl <;> rfl
  · rcases (by omega : i = 0 ∨ i = 1 ∨ i = 2) with rfl | rfl | rfl <;> decide
set_option maxRecDepth 100000 in
theorem alive19 (w : World) : Calls Try.prog 15 #[] w fun e w' => e = .returned (.bool true) ∧ Below w.heap.size w w' := by
  have HX := Lib.hid (fun w t => cRead_any _ _ _ _ _ (exB_bys w t) (by decide))
  rw [exB_rd] at HX
  have HW := Lib.hid (fun w => width_any 0 w)
  have e0 : ((widthZ 0 : Nat) : Int) = 1 := by decide
  rw [e0] at HW
  clear e0
  go_enter Try.func15, Try.ntmps15
  go_wp2_with fail
  refine (HX.out _ _).mono ?_
  rintro e w1 ⟨v, rfl, hr, hn, hb⟩
  obtain ⟨a, cap, rfl, h1, h2, h3, h4⟩ := hr.read
  obtain ⟨g, off, ha, hg, c0⟩ := h4 2 (.int .i64 3) rfl
  obtain ⟨g', off', ha', _, c1⟩ := h4 4 (.int .i64 2) rfl
  rw [ha] at ha'
  cases ha'
  subst ha
  have HB : Hid (Below w.heap.size w w1) := (show Below w.heap.size w w1 from ((Below.refl _ _).alloc (Nat.le_refl _) _).trans (hb.mono (by rw [size_alloc]; omega)))
  clear hr hn hb h1 h2 h3 h4 hg
  go_wp2_with fail
  refine (HW.out _).mono ?_
  rintro e w2 ⟨rfl, rfl⟩
  go_wp2_with fail
  refine (num19_any _ _).mono ?_
  rintro e w2 ⟨rfl, rfl⟩
  go_wp2
  go_ret
  exact ⟨rfl, HB.out⟩
end Go.Proofs.Yteipnfnbepnpjaa

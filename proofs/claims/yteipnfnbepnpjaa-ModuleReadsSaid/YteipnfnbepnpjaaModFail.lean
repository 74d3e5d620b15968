/- module's reader where something has failed, or fails. -/
import Derived.Test.YteipnfnbepnpjaaModRight2
import Derived.Test.YteipnfnbepnpjaaCodeSame
namespace Go.Proofs.Yteipnfnbepnpjaa
open Go.RowKit Go.Maps
set_option linter.unusedVariables false

/-- the reader: what is left, and why it failed -/
def RdSt (w : World) (pr : Nat) (v : Value) (e : Nat) : Prop := w.heap[pr]? = some (.cells #[v, .int .i64 (e : Nat)] 82 (0, 0))
section
variable {w w' : World} {pr e : Nat} {v : Value}
theorem RdSt.lt (h : RdSt w pr v e) : pr < w.heap.size := (Array.getElem?_eq_some_iff.1 h).1
theorem RdSt.below (h : RdSt w pr v e) (hb : Below w.heap.size w w') : RdSt w' pr v e := (hb.block pr h.lt).trans h
/-- zeros -/
theorem zeros_bys {w : World} {g n : Nat} (h : w.heap[g]? = some (.cells (madeCells #[Value.int .u8 0] n) 5 (0, 0))) (hn : n ≤ 1000000) : Bys w (some ⟨g, 0, none⟩) n n (fun _ => 0) := by
  refine ⟨Nat.le_refl _, by omega, fun e => (by cases e), fun i hi => ⟨g, 0, rfl, (Array.getElem?_eq_some_iff.1 h).1, ?_⟩, fun i hi => (show (Lit.int .u8 ((0:Nat):Int)).wf = true by decide)⟩
  rw [Nat.zero_add, cell_of_block h, ← Array.getElem?_toList, toList_madeCells_one, List.getElem?_replicate, if_pos hi]
  rfl
/-- what a take that fails does -/
def TkFail (w : World) (pr : Nat) (v : Value) (e n : Nat) (en : Ending) (w' : World) : Prop :=
  ∃ g, en = .returned (.slice (some ⟨g, 0, none⟩) n n) ∧ Bys w' (some ⟨g, 0, none⟩) n n (fun _ => 0) ∧ RdSt w' pr v e ∧ Keeps [pr] w w'
set_option maxRecDepth 100000 in
set_option maxHeartbeats 2000000 in
theorem take_fail (a : Option Addr) (len cap e n : Nat) (w : World) (h : RdSt w pr (.slice a len cap) e) (hn : n ≤ 1000000) (hf : e ≠ 0 ∨ (e = 0 ∧ len < n)) :
    Calls Try.prog 47 #[.pointer (some ⟨pr, 0, none⟩), .int .i64 (n : Nat)] w (TkFail w pr (.slice a len cap) (if e = 0 then 7 else e) n) := by
  have c0 : w.cell? ⟨pr, 0, none⟩ = some (.slice a len cap) := cell_of_block h
  have c1 : w.cell? ⟨pr, 1, none⟩ = some (.int .i64 (e : Nat)) := cell_of_block h
  have f1 : w.frozen? ⟨pr, 1, none⟩ = false := free_of_block h
  have hpl := h.lt
  obtain ⟨i0, hi, hz0, hz1, hz2⟩ := info_parts byteInfo
  have hmk : ∀ W : World, (Instr.makeSlice 26 (.int .i64 (n : Nat)) (.int .i64 (n : Nat))).run Try.prog W = .ok (.slice (some ⟨W.heap.size, 0, none⟩) n n) (W.alloc (.cells (madeCells #[Value.int .u8 0] n) 5)) := by
    intro W
    have := makes_len (P := Try.prog) 26 5 i0 (.int .u8 0) Try.underlying26 hi hz0 .i64 .i64 n n (Nat.le_refl _) (by rw [hz2]; omega) (by omega) W
    rw [hz1, Nat.mul_one] at this
    exact this
  have H := Lib.hid h
  rcases hf with he | ⟨rfl, hlt⟩
  · have HD : Hid (TkFail w pr (.slice a len cap) (if e = 0 then 7 else e) n (.returned (.slice (some ⟨w.heap.size, 0, none⟩) n n)) (w.alloc (.cells (madeCells #[Value.int .u8 0] n) 5))) := (show TkFail _ _ _ _ _ _ _ from ⟨_, rfl, zeros_bys (heap_alloc_at _ _) hn, by rw [if_neg he]; exact H.out.below ((Below.refl _ _).alloc (Nat.le_refl _) _), (Keeps.refl _ _).alloc _⟩)
    have b1 : ((e : Int) == 0) = false := by rw [beq_eq_false_iff_ne]; omega
    generalize (if e = 0 then 7 else e) = E at HD ⊢
    clear h hi hz0 hz1 hz2 he
    go_enter Try.func47, Try.ntmps47
    go_wp2
    go_ret
    exact HD.out
  · have HD : Hid (TkFail w pr (.slice a len cap) 7 n (.returned (.slice (some ⟨w.heap.size, 0, none⟩) n n)) ((w.setCell ⟨pr, 1, none⟩ (.int .i64 7)).alloc (.cells (madeCells #[Value.int .u8 0] n) 5))) := (show TkFail _ _ _ _ _ _ _ by
      have hsz : (w.setCell ⟨pr, 1, none⟩ (.int .i64 7)).heap.size = w.heap.size := by simp [World.setCell]
      have hh := heap_alloc_at (w.setCell ⟨pr, 1, none⟩ (.int .i64 7)) (.cells (madeCells #[Value.int .u8 0] n) 5)
      rw [hsz] at hh
      refine ⟨_, rfl, zeros_bys hh hn, ?_, ((Keeps.refl _ w).setCell (.inl (by simp)) _).alloc _⟩
      refine RdSt.below ?_ ((Below.refl _ _).alloc (Nat.le_refl _) _)
      have := setCell_block (i := 1) H.out (.int .i64 7)
      simpa [RdSt] using this)
    have hl2 : (len : Int) < (n : Int) := by omega
    rw [if_pos rfl]
    clear h hi hz0 hz1 hz2 hlt
    go_enter Try.func47, Try.ntmps47
    go_wp2
    go_ret
    exact HD.out
theorem one_fail (a : Option Addr) (len cap e : Nat) (w : World) (h : RdSt w pr (.slice a len cap) e) (he : e ≠ 0) :
    Calls Try.prog 48 #[.pointer (some ⟨pr, 0, none⟩)] w fun en w' => en = .returned (.int .i64 0) ∧ RdSt w' pr (.slice a len cap) e ∧ Keeps [pr] w w' := by
  have HT := Lib.hid (take_fail a len cap e 1 w h (by omega) (.inl he))
  rw [if_neg he] at HT
  clear h he
  go_enter Try.func48, Try.ntmps48
  go_wp2_with fail
  refine HT.out.mono ?_
  rintro en w1 ⟨g, rfl, hb, hr, hk⟩
  obtain ⟨_, _, e1, _, c0⟩ := hb.cell 0 (by omega)
  cases e1
  have HR := Lib.hid hr
  have HK := Lib.hid hk
  clear hb hr hk
  go_wp2
  go_ret
  exact ⟨rfl, HR.out, HK.out⟩
theorem wrong_fail (b : Bool) (e : Nat) (w : World) (h : RdSt w pr v e) (he : e ≠ 0) :
    Calls Try.prog 45 #[.pointer (some ⟨pr, 0, none⟩), .bool b] w fun en w' => en = .returned (.tuple #[]) ∧ w = w' := by
  have c1 : w.cell? ⟨pr, 1, none⟩ = some (.int .i64 (e : Nat)) := cell_of_block h
  have b1 : ((e : Int) == 0) = false := by rw [beq_eq_false_iff_ne]; omega
  clear h he
  go_enter Try.func45, Try.ntmps45
  go_wp2
  go_end0
  exact ⟨rfl, rfl⟩
theorem many_fail (a : Option Addr) (len cap e : Nat) (fv : Value) (w : World) (h : RdSt w pr (.slice a len cap) e) (he : e ≠ 0) :
    Calls Try.prog 49 #[.pointer (some ⟨pr, 0, none⟩), fv] w fun en w' => en = .returned (.tuple #[]) ∧ RdSt w' pr (.slice a len cap) e ∧ Keeps [pr] w w' := by
  have HO := Lib.hid (one_fail a len cap e w h he)
  clear h he
  go_enter Try.func49, Try.ntmps49
  go_wp2_with fail
  refine HO.out.mono ?_
  rintro en w1 ⟨rfl, hr, hk⟩
  have HR := Lib.hid hr
  have HK := Lib.hid hk
  clear hr hk
  go_wp2_with fail
  go_loopw [4] (fun i wr => i = .int .i64 0 ∧ wr = w1) (fun _ _ => 0)
  case atStart => exact ⟨rfl, rfl⟩
  case round =>
    obtain ⟨rfl, rfl⟩ := hrel
    go_wp2
    go_end0
    exact ⟨rfl, HR.out, HK.out⟩
end
end Go.Proofs.Yteipnfnbepnpjaa

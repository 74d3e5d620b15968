/- module's reader: take of nothing, take in every state, one, wrong. -/
import Derived.Test.YteipnfnbepnpjaaModModel
namespace Go.Proofs.Yteipnfnbepnpjaa
open Go.RowKit Go.Maps
set_option linter.unusedVariables false
section
variable {B : Nat} {pr : Nat}
theorem sliced_same (a : Option Addr) (len cap : Nat) : sliced a 0 len cap 1 = .slice a len cap := by
  have e : a.map (·.add (0 * 1)) = a := by cases a <;> rfl
  unfold sliced
  rw [e, ite_self, Nat.sub_zero, Nat.sub_zero]
theorem slice_same {w : World} (a : Option Addr) (len cap : Nat) : (Instr.slice 26 (.slice a len cap) (some (.int .i64 0)) none none).run Try.prog w = .ok (.slice a len cap) w := by
  obtain ⟨i0, hi, hz0, hz1, hz2⟩ := info_parts byteInfo
  have he : Try.prog.underlying 26 = some (.slice (Try.prog.elem 26)) := by kernel_rfl
  rw [run_slice_l w 26 a len cap he .i64 0 (by omega) (by omega)]
  have h1 : (sizeOf (Try.prog.elem 26)).run Try.prog w = .ok 1 w := by
    have e : Try.prog.elem 26 = 5 := by kernel_rfl
    rw [e]
    simp [sizeOf, typeInfo, hi, hz1]
  rw [h1]
  exact congrArg (fun v => Result.ok v w) (sliced_same a len cap)
set_option maxRecDepth 100000 in
set_option maxHeartbeats 2000000 in
theorem take_zero (l : List Nat) (w : World) (h : RdS B w pr (l, 0)) :
    Calls Try.prog 47 #[.pointer (some ⟨pr, 0, none⟩), .int .i64 0] w (TkP B w pr 0 (l, 0)) := by
  obtain ⟨⟨a, len, cap, h1, h2, h3⟩, h4, h5, h6⟩ := h
  have h1 : RdSt w pr (.slice a len cap) 0 := h1
  have h2 : HoldsB w a len cap l := h2
  have h5 : l.length ≤ 1000000 := h5
  have c0 : w.cell? ⟨pr, 0, none⟩ = some (.slice a len cap) := cell_of_block h1
  have c1 : w.cell? ⟨pr, 1, none⟩ = some (.int .i64 0) := cell_of_block h1
  have f0 : w.frozen? ⟨pr, 0, none⟩ = false := free_of_block h1
  have hpl := h1.lt
  obtain ⟨i0, hi, hz0, hz1, hz2⟩ := info_parts byteInfo
  have hmk : ∀ W : World, (Instr.makeSlice 26 (.int .i64 0) (.int .i64 0)).run Try.prog W = .ok (.slice (some ⟨W.heap.size, 0, none⟩) 0 0) (W.alloc (.cells (madeCells #[Value.int .u8 0] 0) 5)) := by
    intro W
    have := makes_len (P := Try.prog) 26 5 i0 (.int .u8 0) Try.underlying26 hi hz0 .i64 .i64 0 0 (Nat.le_refl _) (by rw [hz2]; omega) (by omega) W
    rw [hz1, Nat.mul_one] at this
    exact this
  have hsz : (Try.prog.info? 5).map (·.size) = some 1 := by rw [hi]; simp [hz1]
  obtain ⟨w1, hw1⟩ : ∃ w1, w1 = w.alloc (.cells (madeCells #[Value.int .u8 0] 0) 5) := ⟨_, rfl⟩
  have h11 : RdSt w1 pr (.slice a len cap) 0 := by rw [hw1]; exact h1.below ((Below.refl _ _).alloc (Nat.le_refl _) _)
  have d0 : w1.cell? ⟨pr, 0, none⟩ = some (.slice a len cap) := cell_of_block h11
  have d1 : w1.frozen? ⟨pr, 0, none⟩ = false := free_of_block h11
  have hp1 := h11.lt
  have HD : Hid (TkP B w pr 0 (l, 0) (.returned (.slice (some ⟨w.heap.size, 0, none⟩) 0 0)) (w1.setCell ⟨pr, 0, none⟩ (.slice a len cap))) := (show TkP _ _ _ _ _ _ _ by
    have k1 : Keeps [] w w1 := by rw [hw1]; exact (Keeps.refl _ w).alloc _
    have k3 : Keeps [pr] w1 (w1.setCell ⟨pr, 0, none⟩ (.slice a len cap)) := (Keeps.refl _ w1).setCell (.inl (by simp)) _
    have k := (k1.mono (l' := [pr]) (fun x hx => absurd hx List.not_mem_nil)).trans k3
    refine ⟨_, rfl, ?_, Nat.le_refl _, ?_, k⟩
    · rw [takeM_ok (Nat.zero_le _)]
      exact (show MadeB w1 w.heap.size 0 (List.replicate 0 0) by rw [hw1]; exact made_zeros (heap_alloc_at _ _)).keeps k3 (by simp; omega)
    · rw [takeM_ok (Nat.zero_le _)]
      refine ⟨⟨a, len, cap, ?_, h2.keeps k (fun g off e hm => by have := h3 g off e; simp at hm; omega), h3⟩, h4, by simp; omega, (by decide : (0 : Nat) < 100)⟩
      have := setCell_block (i := 0) h11 (.slice a len cap)
      simpa [RdSt] using this)
  have HW := Lib.hid hw1
  have HSZ := Lib.hid hsz
  have hln : ¬ (len : Int) < 0 := by omega
  have hsl := fun W : World => slice_same (w := W) a len cap
  clear hi hz0 hz1 hz2 h1 h2 h3 h5 h6 h11 hsz hw1
  go_enter Try.func47, Try.ntmps47
  go_wp2_with (with_reducible refine wpList_copy_nothing rfl (.tmp 30) (.tmp 34) 26 26 rfl 5 Try.underlying26 HSZ.out (some ⟨w.heap.size, 0, none⟩) a 0 0 len cap rfl rfl (by simp) ?_; rw [← HW.out])
  go_ret
  exact HD.out
/-- take, in every state -/
theorem take_any (n : Nat) (s : RS) (w : World) (h : RdS B w pr s) (hn : n ≤ 1000000) :
    Calls Try.prog 47 #[.pointer (some ⟨pr, 0, none⟩), .int .i64 (n : Nat)] w (TkP B w pr n s) := by
  obtain ⟨l, e⟩ := s
  by_cases he : e = 0
  · subst he
    by_cases hl : l.length < n
    · exact take_no n (l, 0) w h hn (.inr ⟨rfl, hl⟩)
    · rcases Nat.eq_zero_or_pos n with rfl | hp
      · exact take_zero l w h
      · exact take_yes n l w h (by omega) hp
  · exact take_no n (l, e) w h hn (.inl he)
theorem takeM_lt {n : Nat} {s : RS} {g : Nat} {w : World} (h : MadeB w g n (takeM n s).1) : ∀ y ∈ (takeM n s).1, y < 256 := h.2.1
/-- one byte -/
theorem one_any (s : RS) (w : World) (h : RdS B w pr s) :
    Calls Try.prog 48 #[.pointer (some ⟨pr, 0, none⟩)] w fun en w' => en = .returned (.int .i64 ((oneM s).1 : Nat)) ∧ (oneM s).1 < 256 ∧ RdS B w' pr (oneM s).2 ∧ Keeps [pr] w w' := by
  have HT := Lib.hid (take_any 1 s w h (by omega))
  have HO : Hid (oneM s = ((takeM 1 s).1.headD 0, (takeM 1 s).2)) := rfl
  obtain ⟨x, hx⟩ : ∃ x, x = oneM s := ⟨_, rfl⟩
  rw [← hx] at HO ⊢
  clear h hx
  go_enter Try.func48, Try.ntmps48
  go_wp2_with fail
  refine HT.out.mono ?_
  rintro en w1 ⟨g, rfl, hb, _, hr, hk⟩
  have hh := hb.holds (by omega)
  obtain ⟨y, hy⟩ : ∃ y, (takeM 1 s).1 = [y] := by
    have := takeM_length 1 s
    exact List.length_eq_one_iff.1 this
  rw [hy] at hh
  obtain ⟨_, _, e1, _, c0⟩ := hh.cell 0 y rfl
  cases e1
  have hy2 : y < 256 := hh.lt y (by simp)
  have HY : Hid (x = (y, (takeM 1 s).2)) := (show x = _ by rw [HO.out, hy]; rfl)
  have HR := Lib.hid hr
  have HK := Lib.hid hk
  clear hb hr hk hh hy
  go_wp2
  go_ret
  rw [HY.out]
  exact ⟨rfl, by assumption, HR.out, HK.out⟩
theorem wrong_any2 (b : Bool) (s : RS) (w : World) (h : RdS B w pr s) :
    Calls Try.prog 45 #[.pointer (some ⟨pr, 0, none⟩), .bool b] w fun en w' => en = .returned (.tuple #[]) ∧ RdS B w' pr (wrongM b s) ∧ Keeps [pr] w w' ∧ w'.cell? ⟨pr, 0, none⟩ = w.cell? ⟨pr, 0, none⟩ := by
  obtain ⟨l, e⟩ := s
  have HH := Lib.hid h
  obtain ⟨⟨a, len, cap, h1, h2, h3⟩, h4, h5, h6⟩ := h
  have c1 : w.cell? ⟨pr, 1, none⟩ = some (.int .i64 (e : Nat)) := cell_of_block h1
  have f1 : w.frozen? ⟨pr, 1, none⟩ = false := free_of_block h1
  have hpl := h1.lt
  by_cases he : e = 0
  · subst he
    replace c1 : w.cell? ⟨pr, 1, none⟩ = some (.int .i64 0) := c1
    cases b with
    | false =>
      have HD : Hid (RdS B w pr (wrongM false (l, 0)) ∧ Keeps [pr] w w) := (show _ ∧ _ from ⟨by unfold wrongM; rw [if_neg (by simp)]; exact HH.out, Keeps.refl _ _⟩)
      clear h1 h2 h3 h5 h6
      go_enter Try.func45, Try.ntmps45
      go_wp2
      go_end0
      exact ⟨rfl, HD.out.1, HD.out.2, rfl⟩
    | true =>
      have HE : Hid ((w.setCell ⟨pr, 1, none⟩ (.int .i64 8)).cell? ⟨pr, 0, none⟩ = some (.slice a len cap)) := (show _ = _ from by
        have := setCell_block (i := 1) h1 (.int .i64 8)
        exact cell_of_block this)
      have HE0 : Hid (w.cell? ⟨pr, 0, none⟩ = some (.slice a len cap)) := (show _ = _ from cell_of_block h1)
      have HD : Hid (RdS B (w.setCell ⟨pr, 1, none⟩ (.int .i64 8)) pr (wrongM true (l, 0)) ∧ Keeps [pr] w (w.setCell ⟨pr, 1, none⟩ (.int .i64 8))) := (show _ ∧ _ from by
        have k : Keeps [pr] w (w.setCell ⟨pr, 1, none⟩ (.int .i64 8)) := (Keeps.refl _ w).setCell (.inl (by simp)) _
        refine ⟨?_, k⟩
        unfold wrongM
        rw [if_pos ⟨rfl, rfl⟩]
        refine ⟨⟨a, len, cap, ?_, h2.keeps k (fun g off e hm => by have := h3 g off e; simp at hm; omega), h3⟩, h4, h5, (by decide : (8 : Nat) < 100)⟩
        have := setCell_block (i := 1) h1 (.int .i64 8)
        simpa [RdSt] using this)
      clear h1 h2 h3 h5 h6
      go_enter Try.func45, Try.ntmps45
      go_wp2
      go_end0
      exact ⟨rfl, HD.out.1, HD.out.2, HE.out.trans HE0.out.symm⟩
  · have HD : Hid (RdS B w pr (wrongM b (l, e)) ∧ Keeps [pr] w w) := (show _ ∧ _ from ⟨by unfold wrongM; rw [if_neg (by rintro ⟨h, _⟩; exact he h)]; exact HH.out, Keeps.refl _ _⟩)
    have b1 : ((e : Int) == 0) = false := by rw [beq_eq_false_iff_ne]; omega
    clear h1 h2 h3 h5 h6 he
    go_enter Try.func45, Try.ntmps45
    go_wp2
    go_end0
    exact ⟨rfl, HD.out.1, HD.out.2, rfl⟩
theorem wrong_any (b : Bool) (s : RS) (w : World) (h : RdS B w pr s) :
    Calls Try.prog 45 #[.pointer (some ⟨pr, 0, none⟩), .bool b] w fun en w' => en = .returned (.tuple #[]) ∧ RdS B w' pr (wrongM b s) ∧ Keeps [pr] w w' :=
  (wrong_any2 b s w h).mono (by rintro en w' ⟨a, b, c, _⟩; exact ⟨a, b, c⟩)
end
end Go.Proofs.Yteipnfnbepnpjaa

/- spill's Down and Forget compute what they say. -/
import Derived.Test.YtkfgpgllpegleaaSpillMore
namespace Go.Proofs.Ytkfgpgllpegleaa
open Go.RowKit Go.Maps
set_option linter.unusedVariables false

/-- one handle is not sticky -/
def freeT (T : Int → Bool) (h : Int) : Int → Bool := fun y => if y = h then false else T y
theorem SpillAt.dropX {w : World} {p e s n : Nat} {lim : Int} {X : Int → Nat} {T : Int → Bool} (hs : SpillAt w p e s n lim X T) {h : Int} {w' : World}
    (hm : MapAt Try.prog w' 3 e n (fun y => if y = h then none else (hs.extra.choose y))) (hg : w.grownBy w' (some e)) : SpillAt w' p e s n lim (growX X h 0) T := by
  have hc := hs.extra.choose_spec
  have hne := hs.ne
  obtain ⟨ty, h2⟩ := hs.head
  obtain ⟨f, h4, h5⟩ := hs.sticky
  have k : Keeps [e] w w' := Keeps.of_grown hg (List.mem_singleton_self e)
  refine ⟨hs.ne, ⟨ty, k.at h2 (by simp; exact hne.1)⟩, hs.lim, ⟨_, hm, fun x hx => ?_⟩, ⟨f, h4.keeps k (by simp; exact fun q => hne.2.2 q.symm), h5⟩⟩
  by_cases hxh : x = h
  · simp [hxh, growX]
  · simp only [growX, if_neg hxh]; exact hc.2 x hx
theorem SpillAt.dropT {w : World} {p e s n : Nat} {lim : Int} {X : Int → Nat} {T : Int → Bool} (hs : SpillAt w p e s n lim X T) {h : Int} {w' : World}
    (hm : MapAt Try.prog w' 3 s n (fun y => if y = h then none else (hs.sticky.choose y))) (hg : w.grownBy w' (some s)) : SpillAt w' p e s n lim X (freeT T h) := by
  have hc := hs.sticky.choose_spec
  have hne := hs.ne
  obtain ⟨ty, h2⟩ := hs.head
  obtain ⟨f, h4, h5⟩ := hs.extra
  have k : Keeps [s] w w' := Keeps.of_grown hg (List.mem_singleton_self s)
  refine ⟨hs.ne, ⟨ty, k.at h2 (by simp; exact hne.2.1)⟩, hs.lim, ⟨f, h4.keeps k (by simp; exact hne.2.2), h5⟩, ⟨_, hm, fun x hx => ?_⟩⟩
  by_cases hxh : x = h
  · simp [hxh, freeT]
  · simp only [freeT, if_neg hxh]; exact hc.2 x hx
theorem down_stuck {p e s n : Nat} {lim : Int} {X : Int → Nat} {T : Int → Bool} (h c : Int) (w : World) (hs : SpillAt w p e s n lim X T) (hh : (Lit.int .i64 h).wf = true) (hT : T h = true) :
    Calls Try.prog 27 #[.pointer (some ⟨p, 0, none⟩), .int .i64 h, .int .i64 c] w fun e w' => e = .returned (.int .i64 (cutC c : Nat)) ∧ w = w' := by
  obtain ⟨_, _, c2⟩ := hs.cells
  have hr := hs.lookT hh
  rw [hT] at hr
  clear hs hT
  go_enter Try.func27, Try.ntmps27
  go_wp2_with (go_at_call 42; refine (spillCut_any _ _).mono ?_; rintro e w' ⟨rfl, rfl⟩)
  go_ret
  exact ⟨rfl, rfl⟩
theorem down_low {p e s n : Nat} {lim : Int} {X : Int → Nat} {T : Int → Bool} (h c : Int) (w : World) (hs : SpillAt w p e s n lim X T) (hh : (Lit.int .i64 h).wf = true) (hT : T h = false) (hX : X h = 0) :
    Calls Try.prog 27 #[.pointer (some ⟨p, 0, none⟩), .int .i64 h, .int .i64 c] w fun e w' => e = .returned (.int .i64 (cutC c - 1 : Nat)) ∧ w = w' := by
  obtain ⟨_, c1, c2⟩ := hs.cells
  have hr := hs.lookT hh
  rw [hT] at hr
  have hr2 := hs.lookX hh
  rw [hX] at hr2
  have hle := cutC_le c
  clear hs hT hX
  go_enter Try.func27, Try.ntmps27
  go_wp2_with (go_at_call 42; refine (spillCut_any _ _).mono ?_; rintro e w' ⟨rfl, rfl⟩)
  all_goals
    go_ret
    exact ⟨ret_int (by omega), rfl⟩
set_option maxRecDepth 100000 in
set_option maxHeartbeats 1000000 in
theorem down_high {p e s n : Nat} {lim : Int} {X : Int → Nat} {T : Int → Bool} (h c : Int) (w : World) (xx : Nat) (hs : SpillAt w p e s n lim X T) (hh : (Lit.int .i64 h).wf = true) (hT : T h = false) (hxx : X h = xx + 1) (hX : xx ≤ 1099511627776) (hn : n + 2 ≤ 1099511627776) :
    Calls Try.prog 27 #[.pointer (some ⟨p, 0, none⟩), .int .i64 h, .int .i64 c] w (UpDone p e s n lim (growX X h xx) T (cutC c) w) := by
  obtain ⟨_, c1, c2⟩ := hs.cells
  have hr := hs.lookT hh
  rw [hT] at hr
  have hr2 := hs.lookX hh
  rw [hxx] at hr2
  have e1 : ((xx + 1 : Nat) : Int) = (xx : Int) + 1 := by omega
  rw [e1] at hr2
  have HS := Lib.hid hs
  have HN := Lib.hid hn
  have HHH := Lib.hid hh
  clear hs hT hxx e1 hn hh
  go_enter Try.func27, Try.ntmps27
  have HML : Hid (n < maxLen) := (show n < maxLen by have := HN.out; unfold maxLen; omega)
  go_wp2_with fail
  refine (spillCut_any _ _).mono ?_
  rintro e w' ⟨rfl, rfl⟩
  go_wp2_with (at_mapUpdate; refine wpList_store (by rfl) (.tmp 28) (.tmp 29) (.tmp 31) 52 rfl 3 3 sp_key Try.underlying3 Try.underlying52 e n _ rfl (HS.out).extra.choose_spec.1 HML.out h (.int .i64 (xx : Int)) rfl (by first | rfl | go_num) HHH.out ?_)
  intro w1 hm hg
  have HS2 := Lib.hid (SpillAt.grow HS.out hm hg)
  have HK2 : Hid (Keeps [e, s] w w1) := (show Keeps [e, s] w w1 from (Keeps.of_grown hg (by simp)))
  clear hm hg
  go_wp2
  go_ret
  exact ⟨rfl, HS2.out.mono (by omega), HK2.out⟩
/-- what Forget does -/
def Forgot (p e s n : Nat) (lim : Int) (X : Int → Nat) (T : Int → Bool) (w : World) (en : Ending) (w' : World) : Prop :=
  en = .returned (.tuple #[]) ∧ SpillAt w' p e s n lim X T ∧ Keeps [e, s] w w'
set_option maxRecDepth 100000 in
set_option maxHeartbeats 1000000 in
theorem forget_any {p e s n : Nat} {lim : Int} {X : Int → Nat} {T : Int → Bool} (h : Int) (w : World) (hs : SpillAt w p e s n lim X T) (hh : (Lit.int .i64 h).wf = true) :
    Calls Try.prog 28 #[.pointer (some ⟨p, 0, none⟩), .int .i64 h] w (Forgot p e s n lim (growX X h 0) (freeT T h) w) := by
  obtain ⟨_, c1, c2⟩ := hs.cells
  have HS := Lib.hid hs
  have HHH := Lib.hid hh
  clear hs hh
  go_enter Try.func28, Try.ntmps28
  go_wp2_with (at_delete; refine wpList_drop (by rfl) (.tmp 7) (.tmp 8) 52 3 rfl 3 sp_key Try.underlying3 Try.underlying52 e n _ rfl (HS.out).extra.choose_spec.1 h rfl HHH.out ?_)
  intro w1 hm hg
  have HS2 := Lib.hid (SpillAt.dropX HS.out hm hg)
  have HK2 : Hid (Keeps [e, s] w w1) := (show Keeps [e, s] w w1 from (Keeps.of_grown hg (by simp)))
  clear hm hg c1 c2
  obtain ⟨_, _, d2⟩ := HS2.out.cells
  go_wp2_with (at_delete; refine wpList_drop (by rfl) (.tmp 12) (.tmp 13) 53 3 rfl 4 sp_key Try.underlying3 Try.underlying53 s n _ rfl (HS2.out).sticky.choose_spec.1 h rfl HHH.out ?_)
  intro w2 hm hg
  have HS3 := Lib.hid (SpillAt.dropT HS2.out hm hg)
  have HK3 : Hid (Keeps [e, s] w w2) := (show Keeps [e, s] w w2 from HK2.out.trans (Keeps.of_grown hg (by simp)))
  clear hm hg
  go_wp2
  go_end0
  exact ⟨rfl, HS3.out, HK3.out⟩
end Go.Proofs.Ytkfgpgllpegleaa
